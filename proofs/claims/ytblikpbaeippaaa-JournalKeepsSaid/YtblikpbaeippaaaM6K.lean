/- Parts FrP, FrL, Jr1, Jr2, Jr3, Er, Bk1, joined. No condition. -/
import Derived.Test.YtblikpbaeippaaaM5K
import Derived.Test.YtblikpbaeippaaaM4K
import Derived.LaidEql
import Derived.Stop.Asserts
import Derived.Laws.Externs
namespace Go.Proofs.Ytblikpbaeippaaa
set_option linter.unusedVariables false
set_option linter.unusedSimpArgs false
open Go.RowKit Px
def OP (o : Option (List UInt8 × Nat)) (v : Value) : Prop := match o with
  | some (p, k) => v = .tuple #[str p, .int .i64 k, .bool true]
  | none => v = .tuple #[str [], .int .i64 0, .bool false]
theorem num_or (x y : UInt8) : ((((x.toNat : Int) * 256).toNat ||| (y.toNat : Int).toNat : Nat) : Int) = ((x.toNat * 256 + y.toNat : Nat) : Int) := by
  have hy := y.toNat_lt
  have e : ((x.toNat : Int) * 256).toNat = x.toNat * 256 := by omega
  rw [e, Int.toNat_natCast, show x.toNat * 256 = 2 ^ 8 * x.toNat by omega, ← Nat.two_pow_add_eq_or_of_lt (by omega)]
set_option maxRecDepth 20000 in
set_option maxHeartbeats 2000000 in
theorem open_any (s : List UInt8) (a : Nat) (hs : s.length ≤ 3000000) (ha : a ≤ 3000000) (w0 : World) (h : PH) : PCalls Try.prog w0 71 [str s, .int .i64 a] h fun v h' => OP (Fm.openL s a) v ∧ h' = h := by
  refine zAp Try.func71 (by kernel_rfl) rfl _ Try.ntmps71 (by kernel_rfl) (by kernel_rfl) _ Try.results71 ?_
  have hR := raws_any s a 6 (by omega) (by omega) (by omega) (by omega) w0 h
  cases h1 : Fm.raws 6 (s.drop a) with
  | none =>
    have ho : Fm.openL s a = none := by unfold Fm.openL; rw [h1]
    rw [ho]
    rw [h1] at hR
    have hR := Lib.hid hR
    simp -dsimp -implicitDefEqProofs (disch := first | omega | assumption | (simp only [Option.isSome_some,Qt0]; done) | (simp only [UInt64.reduceToNat,UInt32.reduceToNat,UInt8.reduceToNat,List.length_cons,List.length_nil,List.length_append,Int.toNat_natCast] <;> omega) | fail) only [Nat.reduceLT,Nat.reduceLeDiff,Nat.reduceEqDiff,↓reduceIte,Int.reduceLT,Int.reduceLE,Int.reduceToNat,Int.reduceEq,Int.reduceNe,Nat.reduceAdd,UInt8.reduceOfNat,UInt16.reduceOfNat,UInt32.reduceOfNat,UInt64.reduceOfNat,UInt64.reduceToNat,UInt32.reduceToNat,UInt16.reduceToNat,UInt8.reduceToNat,Int.reduceAdd,Int.reduceSub,Int.reduceMul,Nat.reduceMul,Qp0,Qp1,Ql0,Qe0]
    refine hR.out.mono ?_
    rintro v hz ⟨rfl, rfl⟩
    simp -dsimp -implicitDefEqProofs (disch := first | omega | assumption | (simp only [Option.isSome_some,Qt0]; done) | (simp only [UInt64.reduceToNat,UInt32.reduceToNat,UInt8.reduceToNat,List.length_cons,List.length_nil,List.length_append,Int.toNat_natCast] <;> omega) | fail) only [Nat.reduceLT,Nat.reduceLeDiff,Nat.reduceEqDiff,↓reduceIte,Int.reduceLT,Int.reduceLE,Int.reduceToNat,Int.reduceEq,Int.reduceNe,Nat.reduceAdd,UInt8.reduceOfNat,UInt16.reduceOfNat,UInt32.reduceOfNat,UInt64.reduceOfNat,UInt64.reduceToNat,UInt32.reduceToNat,UInt16.reduceToNat,UInt8.reduceToNat,Int.reduceAdd,Int.reduceSub,Int.reduceMul,Nat.reduceMul,Qp0,Qp1,Ql0,Qe0]
    refine zC9 [(0, false), (1, false), (2, false), (3, false), (4, false), (7, false), (8, false), (9, false), (5, false), (6, true), (10, false), (11, false)] _ (by kernel_rfl) (by decide +kernel) (by kernel_rfl) (by kernel_rfl) (by kernel_rfl) (fun c f h hq => by simp only [zAy, zAv, zAw, zAu, zAx] at hq) (PH.Le.refl _).sub ?_
    simp -dsimp -implicitDefEqProofs (disch := first | omega | assumption | (simp only [Option.isSome_some,Qt0]; done) | (simp only [UInt64.reduceToNat,UInt32.reduceToNat,UInt8.reduceToNat,List.length_cons,List.length_nil,List.length_append,Int.toNat_natCast] <;> omega) | fail) only [Nat.reduceLT,Nat.reduceLeDiff,Nat.reduceEqDiff,↓reduceIte,Int.reduceLT,Int.reduceLE,Int.reduceToNat,Int.reduceEq,Int.reduceNe,Nat.reduceAdd,UInt8.reduceOfNat,UInt16.reduceOfNat,UInt32.reduceOfNat,UInt64.reduceOfNat,UInt64.reduceToNat,UInt32.reduceToNat,UInt16.reduceToNat,UInt8.reduceToNat,Int.reduceAdd,Int.reduceSub,Int.reduceMul,Nat.reduceMul,Qp0,Qp1,Ql0,Qe0]
    refine ⟨(PH.Le.refl _).sub, ?_⟩
    simp -dsimp -implicitDefEqProofs (disch := first | omega | assumption | (simp only [Option.isSome_some,Qt0]; done) | (simp only [UInt64.reduceToNat,UInt32.reduceToNat,UInt8.reduceToNat,List.length_cons,List.length_nil,List.length_append,Int.toNat_natCast] <;> omega) | fail) only [Nat.reduceLT,Nat.reduceLeDiff,Nat.reduceEqDiff,↓reduceIte,Int.reduceLT,Int.reduceLE,Int.reduceToNat,Int.reduceEq,Int.reduceNe,Nat.reduceAdd,UInt8.reduceOfNat,UInt16.reduceOfNat,UInt32.reduceOfNat,UInt64.reduceOfNat,UInt64.reduceToNat,UInt32.reduceToNat,UInt16.reduceToNat,UInt8.reduceToNat,Int.reduceAdd,Int.reduceSub,Int.reduceMul,Nat.reduceMul,Qp0,Qp1,Ql0,Qe0]
    refine ⟨(PH.Le.refl _).sub, ?_⟩
    simp -dsimp -implicitDefEqProofs (disch := first | omega | assumption | (simp only [Option.isSome_some,Qt0]; done) | (simp only [UInt64.reduceToNat,UInt32.reduceToNat,UInt8.reduceToNat,List.length_cons,List.length_nil,List.length_append,Int.toNat_natCast] <;> omega) | fail) only [Nat.reduceLT,Nat.reduceLeDiff,Nat.reduceEqDiff,↓reduceIte,Int.reduceLT,Int.reduceLE,Int.reduceToNat,Int.reduceEq,Int.reduceNe,Nat.reduceAdd,UInt8.reduceOfNat,UInt16.reduceOfNat,UInt32.reduceOfNat,UInt64.reduceOfNat,UInt64.reduceToNat,UInt32.reduceToNat,UInt16.reduceToNat,UInt8.reduceToNat,Int.reduceAdd,Int.reduceSub,Int.reduceMul,Nat.reduceMul,Qp0,Qp1,Ql0,Qe0]
    exact ⟨_, PH.Le.refl _, rfl, rfl⟩
  | some hd =>
    rw [h1] at hR
    have hop : Fm.openL s a = (if Fm.four (Fm.sum (hd.take 2)) = hd.drop 2 then
      match Fm.raws ((hd.getD 0 0).toNat * 256 + (hd.getD 1 0).toNat + 4) (s.drop (a + 12)) with
      | none => none
      | some rest => if (hd.getD 0 0).toNat * 256 + (hd.getD 1 0).toNat ≤ 8192 ∧ Fm.four (Fm.sum (hd.take 2 ++ rest.take ((hd.getD 0 0).toNat * 256 + (hd.getD 1 0).toNat))) = rest.drop ((hd.getD 0 0).toNat * 256 + (hd.getD 1 0).toNat) then some (rest.take ((hd.getD 0 0).toNat * 256 + (hd.getD 1 0).toNat), a + 12 + 2 * ((hd.getD 0 0).toNat * 256 + (hd.getD 1 0).toNat + 4)) else none
    else none) := by unfold Fm.openL; rw [h1]; rfl
    obtain ⟨x, y, c, rfl, hc⟩ := Fm.sublist_len hd (Fm.raws_some _ _ _ h1).1
    simp only [List.getD_cons_zero, List.getD_cons_succ, List.take_succ_cons, List.take_zero, List.drop_succ_cons, List.drop_zero] at hop
    obtain ⟨n, hn⟩ : ∃ n, n = x.toNat * 256 + y.toNat := ⟨_, rfl⟩
    rw [← hn] at hop
    have hnl : n ≤ 65535 := by have := x.toNat_lt; have := y.toNat_lt; omega
    have hR := Lib.hid hR
    clear h1
    simp -dsimp -implicitDefEqProofs (disch := first | omega | assumption | (simp only [Option.isSome_some,Qt0]; done) | (simp only [UInt64.reduceToNat,UInt32.reduceToNat,UInt8.reduceToNat,List.length_cons,List.length_nil,List.length_append,Int.toNat_natCast] <;> omega) | fail) only [Nat.reduceLT,Nat.reduceLeDiff,Nat.reduceEqDiff,↓reduceIte,Int.reduceLT,Int.reduceLE,Int.reduceToNat,Int.reduceEq,Int.reduceNe,Nat.reduceAdd,UInt8.reduceOfNat,UInt16.reduceOfNat,UInt32.reduceOfNat,UInt64.reduceOfNat,UInt64.reduceToNat,UInt32.reduceToNat,UInt16.reduceToNat,UInt8.reduceToNat,Int.reduceAdd,Int.reduceSub,Int.reduceMul,Nat.reduceMul,Qp0,Qp1,Ql0,Qe0]
    refine hR.out.mono ?_
    rintro v hz ⟨b1, rfl, hb1, rfl⟩
    have hm1 : (h.new b1 ⟨bs (x :: y :: c), 6⟩).m b1 = some ⟨bs (x :: y :: c), 6⟩ := by rw [PH.new_m, if_pos rfl]
    have hle1 : PH.Le h (h.new b1 ⟨bs (x :: y :: c), 6⟩) := (PH.Le.refl h).new _ _ hb1
    generalize h.new b1 ⟨bs (x :: y :: c), 6⟩ = h1 at *
    have hX6 : (bs (x :: y :: c)).length = 6 := by rw [zA0]; simp [hc]
    have hK : Kn h1 (.slice (some ⟨b1, 0, none⟩) 2 6) (bs [x, y]) := ⟨b1, 0, 6, _, 6, rfl, by rw [zA0]; simp, hm1, by rw [hX6, zA0]; simp, rfl⟩
    simp -dsimp -implicitDefEqProofs (disch := first | omega | assumption | (simp only [Option.isSome_some,Qt0]; done) | (simp only [UInt64.reduceToNat,UInt32.reduceToNat,UInt8.reduceToNat,List.length_cons,List.length_nil,List.length_append,Int.toNat_natCast] <;> omega) | fail) only [Nat.reduceLT,Nat.reduceLeDiff,Nat.reduceEqDiff,↓reduceIte,Int.reduceLT,Int.reduceLE,Int.reduceToNat,Int.reduceEq,Int.reduceNe,Nat.reduceAdd,UInt8.reduceOfNat,UInt16.reduceOfNat,UInt32.reduceOfNat,UInt64.reduceOfNat,UInt64.reduceToNat,UInt32.reduceToNat,UInt16.reduceToNat,UInt8.reduceToNat,Int.reduceAdd,Int.reduceSub,Int.reduceMul,Nat.reduceMul,Qp0,Qp1,Ql0,Qe0]
    refine zC9 [(0, false), (1, false), (2, false), (3, false), (4, false), (7, false), (8, false), (9, false), (5, false), (6, true), (10, false), (11, false)] h1 (by kernel_rfl) (by decide +kernel) (by kernel_rfl) (by kernel_rfl) (by kernel_rfl) (fun c f h hq => by simp only [zAy, zAv, zAw, zAu, zAx] at hq) (PH.Le.refl _).sub ?_
    have hKc : Kn h1 (.slice (some ⟨b1, 2, none⟩) 4 4) (bs c) := ⟨b1, 2, 4, _, 6, by rw [zA0, hc], by rw [zA0, hc]; omega, hm1, by rw [hX6, zA0, hc]; omega, by
      show (bs c).take (bs c).length = bs c
      rw [List.take_length]⟩
    simp -dsimp -implicitDefEqProofs (disch := first | omega | assumption | (simp only [Option.isSome_some,Qt0]; done) | (simp only [UInt64.reduceToNat,UInt32.reduceToNat,UInt8.reduceToNat,List.length_cons,List.length_nil,List.length_append,Int.toNat_natCast] <;> omega) | fail) only [Nat.reduceLT,Nat.reduceLeDiff,Nat.reduceEqDiff,↓reduceIte,Int.reduceLT,Int.reduceLE,Int.reduceToNat,Int.reduceEq,Int.reduceNe,Nat.reduceAdd,UInt8.reduceOfNat,UInt16.reduceOfNat,UInt32.reduceOfNat,UInt64.reduceOfNat,UInt64.reduceToNat,UInt32.reduceToNat,UInt16.reduceToNat,UInt8.reduceToNat,Int.reduceAdd,Int.reduceSub,Int.reduceMul,Nat.reduceMul,Qp0,Qp1,Ql0,Qe0,cutAt]
    refine zBx Try.underlying77 Try.underlying5 Try.underlying9 (hKc.rs) (fun e => by cases e) ?_
    simp -dsimp -implicitDefEqProofs (disch := first | omega | assumption | (simp only [Option.isSome_some,Qt0]; done) | (simp only [UInt64.reduceToNat,UInt32.reduceToNat,UInt8.reduceToNat,List.length_cons,List.length_nil,List.length_append,Int.toNat_natCast] <;> omega) | fail) only [Nat.reduceLT,Nat.reduceLeDiff,Nat.reduceEqDiff,↓reduceIte,Int.reduceLT,Int.reduceLE,Int.reduceToNat,Int.reduceEq,Int.reduceNe,Nat.reduceAdd,UInt8.reduceOfNat,UInt16.reduceOfNat,UInt32.reduceOfNat,UInt64.reduceOfNat,UInt64.reduceToNat,UInt32.reduceToNat,UInt16.reduceToNat,UInt8.reduceToNat,Int.reduceAdd,Int.reduceSub,Int.reduceMul,Nat.reduceMul,Qp0,Qp1,Ql0,Qe0]
    refine (zD7 [x, y] (by simp) _ w0 _ hK).mono ?_
    rintro v h2 ⟨b2, rfl, hb2, rfl⟩
    have hF4 := Fm.four_length (Fm.sum [x, y])
    generalize Fm.four (Fm.sum [x, y]) = F at *
    have hm2 : (h1.new b2 ⟨bs F, 4⟩).m b2 = some ⟨bs F, 4⟩ := by rw [PH.new_m, if_pos rfl]
    have hle2 : PH.Le h1 (h1.new b2 ⟨bs F, 4⟩) := (PH.Le.refl h1).new _ _ hb2
    generalize h1.new b2 ⟨bs F, 4⟩ = h2 at *
    simp -dsimp -implicitDefEqProofs (disch := first | omega | assumption | (simp only [Option.isSome_some,Qt0]; done) | (simp only [UInt64.reduceToNat,UInt32.reduceToNat,UInt8.reduceToNat,List.length_cons,List.length_nil,List.length_append,Int.toNat_natCast] <;> omega) | fail) only [Nat.reduceLT,Nat.reduceLeDiff,Nat.reduceEqDiff,↓reduceIte,Int.reduceLT,Int.reduceLE,Int.reduceToNat,Int.reduceEq,Int.reduceNe,Nat.reduceAdd,UInt8.reduceOfNat,UInt16.reduceOfNat,UInt32.reduceOfNat,UInt64.reduceOfNat,UInt64.reduceToNat,UInt32.reduceToNat,UInt16.reduceToNat,UInt8.reduceToNat,Int.reduceAdd,Int.reduceSub,Int.reduceMul,Nat.reduceMul,Qp0,Qp1,Ql0,Qe0]
    refine ⟨hle2.sub, ?_⟩
    simp -dsimp -implicitDefEqProofs (disch := first | omega | assumption | (simp only [Option.isSome_some,Qt0]; done) | (simp only [UInt64.reduceToNat,UInt32.reduceToNat,UInt8.reduceToNat,List.length_cons,List.length_nil,List.length_append,Int.toNat_natCast] <;> omega) | fail) only [Nat.reduceLT,Nat.reduceLeDiff,Nat.reduceEqDiff,↓reduceIte,Int.reduceLT,Int.reduceLE,Int.reduceToNat,Int.reduceEq,Int.reduceNe,Nat.reduceAdd,UInt8.reduceOfNat,UInt16.reduceOfNat,UInt32.reduceOfNat,UInt64.reduceOfNat,UInt64.reduceToNat,UInt32.reduceToNat,UInt16.reduceToNat,UInt8.reduceToNat,Int.reduceAdd,Int.reduceSub,Int.reduceMul,Nat.reduceMul,Qp0,Qp1,Ql0,Qe0]
    refine zBx Try.underlying77 Try.underlying5 Try.underlying9 (Rs.blk (k := ⟨bs F, 4⟩) hm2 (by simp only [zA0]; omega)) (fun e => by cases e) ?_
    simp -dsimp -implicitDefEqProofs (disch := first | omega | assumption | (simp only [Option.isSome_some,Qt0]; done) | (simp only [UInt64.reduceToNat,UInt32.reduceToNat,UInt8.reduceToNat,List.length_cons,List.length_nil,List.length_append,Int.toNat_natCast] <;> omega) | fail) only [Nat.reduceLT,Nat.reduceLeDiff,Nat.reduceEqDiff,↓reduceIte,Int.reduceLT,Int.reduceLE,Int.reduceToNat,Int.reduceEq,Int.reduceNe,Nat.reduceAdd,UInt8.reduceOfNat,UInt16.reduceOfNat,UInt32.reduceOfNat,UInt64.reduceOfNat,UInt64.reduceToNat,UInt32.reduceToNat,UInt16.reduceToNat,UInt8.reduceToNat,Int.reduceAdd,Int.reduceSub,Int.reduceMul,Nat.reduceMul,Qp0,Qp1,Ql0,Qe0]
    refine ⟨hle2.sub, ?_⟩
    by_cases hFc : F = c
    rotate_left
    · have d1 : decide (¬ F = c) = true := decide_eq_true hFc
      rw [hop, if_neg hFc]
      simp -dsimp -implicitDefEqProofs (disch := first | omega | assumption | (simp only [Option.isSome_some,Qt0]; done) | (simp only [UInt64.reduceToNat,UInt32.reduceToNat,UInt8.reduceToNat,List.length_cons,List.length_nil,List.length_append,Int.toNat_natCast] <;> omega) | fail) only [Nat.reduceLT,Nat.reduceLeDiff,Nat.reduceEqDiff,↓reduceIte,Int.reduceLT,Int.reduceLE,Int.reduceToNat,Int.reduceEq,Int.reduceNe,Nat.reduceAdd,UInt8.reduceOfNat,UInt16.reduceOfNat,UInt32.reduceOfNat,UInt64.reduceOfNat,UInt64.reduceToNat,UInt32.reduceToNat,UInt16.reduceToNat,UInt8.reduceToNat,Int.reduceAdd,Int.reduceSub,Int.reduceMul,Nat.reduceMul,Qp0,Qp1,Ql0,Qe0,d1]
      exact ⟨_, hle1.trans hle2, rfl, rfl⟩
    have d1 : decide (¬ F = c) = false := decide_eq_false (fun e => e hFc)
    rw [if_pos hFc] at hop
    have hm12 := hle2.m _ _ hm1
    have c0 : (bs (x :: y :: c))[0]? = some (u8 x) := rfl
    have c1 : (bs (x :: y :: c))[1]? = some (u8 y) := rfl
    have hxl := x.toNat_lt
    have hyl := y.toNat_lt
    have p8 : (2 : Int) ^ (8 : Nat) = 256 := rfl
    have hor := num_or x y
    rw [← hn, Int.toNat_natCast] at hor
    simp -dsimp -implicitDefEqProofs (disch := first | omega | assumption | (simp only [Option.isSome_some,Qt0]; done) | (simp only [UInt64.reduceToNat,UInt32.reduceToNat,UInt8.reduceToNat,List.length_cons,List.length_nil,List.length_append,Int.toNat_natCast] <;> omega) | fail) only [Nat.reduceLT,Nat.reduceLeDiff,Nat.reduceEqDiff,↓reduceIte,Int.reduceLT,Int.reduceLE,Int.reduceToNat,Int.reduceEq,Int.reduceNe,Nat.reduceAdd,UInt8.reduceOfNat,UInt16.reduceOfNat,UInt32.reduceOfNat,UInt64.reduceOfNat,UInt64.reduceToNat,UInt32.reduceToNat,UInt16.reduceToNat,UInt8.reduceToNat,Int.reduceAdd,Int.reduceSub,Int.reduceMul,Nat.reduceMul,Qp0,Qp1,Ql0,Qe0,d1]
    refine zA3 11 h2 (by kernel_rfl) (by kernel_rfl) (by kernel_rfl) (by kernel_rfl) (by kernel_rfl) (fun c f h hq => by simp only [zAy, zAv, zAw, zAu, zAx] at hq) (PH.Le.refl _).sub ?_
    simp -dsimp -implicitDefEqProofs (disch := first | omega | assumption | (simp only [Option.isSome_some,Qt0]; done) | (simp only [UInt64.reduceToNat,UInt32.reduceToNat,UInt8.reduceToNat,List.length_cons,List.length_nil,List.length_append,Int.toNat_natCast] <;> omega) | fail) only [Nat.reduceLT,Nat.reduceLeDiff,Nat.reduceEqDiff,↓reduceIte,Int.reduceLT,Int.reduceLE,Int.reduceToNat,Int.reduceEq,Int.reduceNe,Nat.reduceAdd,UInt8.reduceOfNat,UInt16.reduceOfNat,UInt32.reduceOfNat,UInt64.reduceOfNat,UInt64.reduceToNat,UInt32.reduceToNat,UInt16.reduceToNat,UInt8.reduceToNat,Int.reduceAdd,Int.reduceSub,Int.reduceMul,Nat.reduceMul,Qp0,Qp1,Ql0,Qe0,zAa,zAb,hm12,c0,c1,p8,hor]
    have hR2 := raws_any s (a + 12) (n + 4) (by omega) (by omega) (by omega) (by omega) w0 h2
    rw [show ((a + 12 : Nat) : Int) = (a : Int) + 12 from rfl, show ((n + 4 : Nat) : Int) = (n : Int) + 4 from rfl] at hR2
    have hle := hle1.trans hle2
    cases h2r : Fm.raws (n + 4) (s.drop (a + 12)) with
    | none =>
      rw [h2r] at hR2 hop
      simp only at hop
      rw [hop]
      refine hR2.mono ?_
      rintro v hz ⟨rfl, hz2⟩
      rw [hz2]
      clear hz2 hz hR2
      by_cases hbig : (8192 : Int) < (n : Int)
      · have d2 := decide_eq_true hbig
        simp -dsimp -implicitDefEqProofs (disch := first | omega | assumption | (simp only [Option.isSome_some,Qt0]; done) | (simp only [UInt64.reduceToNat,UInt32.reduceToNat,UInt8.reduceToNat,List.length_cons,List.length_nil,List.length_append,Int.toNat_natCast] <;> omega) | fail) only [Nat.reduceLT,Nat.reduceLeDiff,Nat.reduceEqDiff,↓reduceIte,Int.reduceLT,Int.reduceLE,Int.reduceToNat,Int.reduceEq,Int.reduceNe,Nat.reduceAdd,UInt8.reduceOfNat,UInt16.reduceOfNat,UInt32.reduceOfNat,UInt64.reduceOfNat,UInt64.reduceToNat,UInt32.reduceToNat,UInt16.reduceToNat,UInt8.reduceToNat,Int.reduceAdd,Int.reduceSub,Int.reduceMul,Nat.reduceMul,Qp0,Qp1,Ql0,Qe0]
        refine zC9 [(0, false), (1, false), (2, false), (3, false), (4, false), (5, false), (6, false), (7, false), (8, false), (9, false), (10, false), (11, false), (15, false), (16, false), (17, false), (18, false), (12, false), (13, false), (14, true), (19, false), (20, false)] h2 (by kernel_rfl) (by decide +kernel) (by kernel_rfl) (by kernel_rfl) (by kernel_rfl) (fun c f h hq => by simp only [zAy, zAv, zAw, zAu, zAx] at hq) (PH.Le.refl _).sub ?_
        simp -dsimp -implicitDefEqProofs (disch := first | omega | assumption | (simp only [Option.isSome_some,Qt0]; done) | (simp only [UInt64.reduceToNat,UInt32.reduceToNat,UInt8.reduceToNat,List.length_cons,List.length_nil,List.length_append,Int.toNat_natCast] <;> omega) | fail) only [Nat.reduceLT,Nat.reduceLeDiff,Nat.reduceEqDiff,↓reduceIte,Int.reduceLT,Int.reduceLE,Int.reduceToNat,Int.reduceEq,Int.reduceNe,Nat.reduceAdd,UInt8.reduceOfNat,UInt16.reduceOfNat,UInt32.reduceOfNat,UInt64.reduceOfNat,UInt64.reduceToNat,UInt32.reduceToNat,UInt16.reduceToNat,UInt8.reduceToNat,Int.reduceAdd,Int.reduceSub,Int.reduceMul,Nat.reduceMul,Qp0,Qp1,Ql0,Qe0,d2]
        refine ⟨(PH.Le.refl _).sub, ?_⟩
        simp -dsimp -implicitDefEqProofs (disch := first | omega | assumption | (simp only [Option.isSome_some,Qt0]; done) | (simp only [UInt64.reduceToNat,UInt32.reduceToNat,UInt8.reduceToNat,List.length_cons,List.length_nil,List.length_append,Int.toNat_natCast] <;> omega) | fail) only [Nat.reduceLT,Nat.reduceLeDiff,Nat.reduceEqDiff,↓reduceIte,Int.reduceLT,Int.reduceLE,Int.reduceToNat,Int.reduceEq,Int.reduceNe,Nat.reduceAdd,UInt8.reduceOfNat,UInt16.reduceOfNat,UInt32.reduceOfNat,UInt64.reduceOfNat,UInt64.reduceToNat,UInt32.reduceToNat,UInt16.reduceToNat,UInt8.reduceToNat,Int.reduceAdd,Int.reduceSub,Int.reduceMul,Nat.reduceMul,Qp0,Qp1,Ql0,Qe0]
        refine ⟨(PH.Le.refl _).sub, ?_⟩
        simp -dsimp -implicitDefEqProofs (disch := first | omega | assumption | (simp only [Option.isSome_some,Qt0]; done) | (simp only [UInt64.reduceToNat,UInt32.reduceToNat,UInt8.reduceToNat,List.length_cons,List.length_nil,List.length_append,Int.toNat_natCast] <;> omega) | fail) only [Nat.reduceLT,Nat.reduceLeDiff,Nat.reduceEqDiff,↓reduceIte,Int.reduceLT,Int.reduceLE,Int.reduceToNat,Int.reduceEq,Int.reduceNe,Nat.reduceAdd,UInt8.reduceOfNat,UInt16.reduceOfNat,UInt32.reduceOfNat,UInt64.reduceOfNat,UInt64.reduceToNat,UInt32.reduceToNat,UInt16.reduceToNat,UInt8.reduceToNat,Int.reduceAdd,Int.reduceSub,Int.reduceMul,Nat.reduceMul,Qp0,Qp1,Ql0,Qe0]
        refine ⟨(PH.Le.refl _).sub, ?_⟩
        simp -dsimp -implicitDefEqProofs (disch := first | omega | assumption | (simp only [Option.isSome_some,Qt0]; done) | (simp only [UInt64.reduceToNat,UInt32.reduceToNat,UInt8.reduceToNat,List.length_cons,List.length_nil,List.length_append,Int.toNat_natCast] <;> omega) | fail) only [Nat.reduceLT,Nat.reduceLeDiff,Nat.reduceEqDiff,↓reduceIte,Int.reduceLT,Int.reduceLE,Int.reduceToNat,Int.reduceEq,Int.reduceNe,Nat.reduceAdd,UInt8.reduceOfNat,UInt16.reduceOfNat,UInt32.reduceOfNat,UInt64.reduceOfNat,UInt64.reduceToNat,UInt32.reduceToNat,UInt16.reduceToNat,UInt8.reduceToNat,Int.reduceAdd,Int.reduceSub,Int.reduceMul,Nat.reduceMul,Qp0,Qp1,Ql0,Qe0]
        exact ⟨_, hle, rfl, rfl⟩
      · have d2 := decide_eq_false hbig
        simp -dsimp -implicitDefEqProofs (disch := first | omega | assumption | (simp only [Option.isSome_some,Qt0]; done) | (simp only [UInt64.reduceToNat,UInt32.reduceToNat,UInt8.reduceToNat,List.length_cons,List.length_nil,List.length_append,Int.toNat_natCast] <;> omega) | fail) only [Nat.reduceLT,Nat.reduceLeDiff,Nat.reduceEqDiff,↓reduceIte,Int.reduceLT,Int.reduceLE,Int.reduceToNat,Int.reduceEq,Int.reduceNe,Nat.reduceAdd,UInt8.reduceOfNat,UInt16.reduceOfNat,UInt32.reduceOfNat,UInt64.reduceOfNat,UInt64.reduceToNat,UInt32.reduceToNat,UInt16.reduceToNat,UInt8.reduceToNat,Int.reduceAdd,Int.reduceSub,Int.reduceMul,Nat.reduceMul,Qp0,Qp1,Ql0,Qe0]
        refine zC9 [(0, false), (1, false), (2, false), (3, false), (4, false), (5, false), (6, false), (7, false), (8, false), (9, false), (10, false), (11, false), (15, false), (16, false), (17, false), (18, false), (12, false), (13, false), (14, true), (19, false), (20, false)] h2 (by kernel_rfl) (by decide +kernel) (by kernel_rfl) (by kernel_rfl) (by kernel_rfl) (fun c f h hq => by simp only [zAy, zAv, zAw, zAu, zAx] at hq) (PH.Le.refl _).sub ?_
        simp -dsimp -implicitDefEqProofs (disch := first | omega | assumption | (simp only [Option.isSome_some,Qt0]; done) | (simp only [UInt64.reduceToNat,UInt32.reduceToNat,UInt8.reduceToNat,List.length_cons,List.length_nil,List.length_append,Int.toNat_natCast] <;> omega) | fail) only [Nat.reduceLT,Nat.reduceLeDiff,Nat.reduceEqDiff,↓reduceIte,Int.reduceLT,Int.reduceLE,Int.reduceToNat,Int.reduceEq,Int.reduceNe,Nat.reduceAdd,UInt8.reduceOfNat,UInt16.reduceOfNat,UInt32.reduceOfNat,UInt64.reduceOfNat,UInt64.reduceToNat,UInt32.reduceToNat,UInt16.reduceToNat,UInt8.reduceToNat,Int.reduceAdd,Int.reduceSub,Int.reduceMul,Nat.reduceMul,Qp0,Qp1,Ql0,Qe0,d2]
        refine ⟨(PH.Le.refl _).sub, ?_⟩
        simp -dsimp -implicitDefEqProofs (disch := first | omega | assumption | (simp only [Option.isSome_some,Qt0]; done) | (simp only [UInt64.reduceToNat,UInt32.reduceToNat,UInt8.reduceToNat,List.length_cons,List.length_nil,List.length_append,Int.toNat_natCast] <;> omega) | fail) only [Nat.reduceLT,Nat.reduceLeDiff,Nat.reduceEqDiff,↓reduceIte,Int.reduceLT,Int.reduceLE,Int.reduceToNat,Int.reduceEq,Int.reduceNe,Nat.reduceAdd,UInt8.reduceOfNat,UInt16.reduceOfNat,UInt32.reduceOfNat,UInt64.reduceOfNat,UInt64.reduceToNat,UInt32.reduceToNat,UInt16.reduceToNat,UInt8.reduceToNat,Int.reduceAdd,Int.reduceSub,Int.reduceMul,Nat.reduceMul,Qp0,Qp1,Ql0,Qe0]
        refine ⟨(PH.Le.refl _).sub, ?_⟩
        simp -dsimp -implicitDefEqProofs (disch := first | omega | assumption | (simp only [Option.isSome_some,Qt0]; done) | (simp only [UInt64.reduceToNat,UInt32.reduceToNat,UInt8.reduceToNat,List.length_cons,List.length_nil,List.length_append,Int.toNat_natCast] <;> omega) | fail) only [Nat.reduceLT,Nat.reduceLeDiff,Nat.reduceEqDiff,↓reduceIte,Int.reduceLT,Int.reduceLE,Int.reduceToNat,Int.reduceEq,Int.reduceNe,Nat.reduceAdd,UInt8.reduceOfNat,UInt16.reduceOfNat,UInt32.reduceOfNat,UInt64.reduceOfNat,UInt64.reduceToNat,UInt32.reduceToNat,UInt16.reduceToNat,UInt8.reduceToNat,Int.reduceAdd,Int.reduceSub,Int.reduceMul,Nat.reduceMul,Qp0,Qp1,Ql0,Qe0]
        refine ⟨(PH.Le.refl _).sub, ?_⟩
        simp -dsimp -implicitDefEqProofs (disch := first | omega | assumption | (simp only [Option.isSome_some,Qt0]; done) | (simp only [UInt64.reduceToNat,UInt32.reduceToNat,UInt8.reduceToNat,List.length_cons,List.length_nil,List.length_append,Int.toNat_natCast] <;> omega) | fail) only [Nat.reduceLT,Nat.reduceLeDiff,Nat.reduceEqDiff,↓reduceIte,Int.reduceLT,Int.reduceLE,Int.reduceToNat,Int.reduceEq,Int.reduceNe,Nat.reduceAdd,UInt8.reduceOfNat,UInt16.reduceOfNat,UInt32.reduceOfNat,UInt64.reduceOfNat,UInt64.reduceToNat,UInt32.reduceToNat,UInt16.reduceToNat,UInt8.reduceToNat,Int.reduceAdd,Int.reduceSub,Int.reduceMul,Nat.reduceMul,Qp0,Qp1,Ql0,Qe0]
        exact ⟨_, hle, rfl, rfl⟩
    | some rest =>
      rw [h2r] at hR2 hop
      simp only at hop
      have hrl := (Fm.raws_some _ _ _ h2r).1
      clear h2r
      refine hR2.mono ?_
      rintro v hz ⟨b3, rfl, hb3, rfl⟩
      have hm3 : (h2.new b3 ⟨bs rest, n + 4⟩).m b3 = some ⟨bs rest, n + 4⟩ := by rw [PH.new_m, if_pos rfl]
      have hle3 : PH.Le h2 (h2.new b3 ⟨bs rest, n + 4⟩) := (PH.Le.refl h2).new _ _ hb3
      generalize h2.new b3 ⟨bs rest, n + 4⟩ = h3 at *
      clear hR2
      by_cases hbig : (8192 : Int) < (n : Int)
      · have d2 := decide_eq_true hbig
        rw [if_neg (by omega)] at hop
        rw [hop]
        simp -dsimp -implicitDefEqProofs (disch := first | omega | assumption | (simp only [Option.isSome_some,Qt0]; done) | (simp only [UInt64.reduceToNat,UInt32.reduceToNat,UInt8.reduceToNat,List.length_cons,List.length_nil,List.length_append,Int.toNat_natCast] <;> omega) | fail) only [Nat.reduceLT,Nat.reduceLeDiff,Nat.reduceEqDiff,↓reduceIte,Int.reduceLT,Int.reduceLE,Int.reduceToNat,Int.reduceEq,Int.reduceNe,Nat.reduceAdd,UInt8.reduceOfNat,UInt16.reduceOfNat,UInt32.reduceOfNat,UInt64.reduceOfNat,UInt64.reduceToNat,UInt32.reduceToNat,UInt16.reduceToNat,UInt8.reduceToNat,Int.reduceAdd,Int.reduceSub,Int.reduceMul,Nat.reduceMul,Qp0,Qp1,Ql0,Qe0]
        refine zC9 [(0, false), (1, false), (2, false), (3, false), (4, false), (5, false), (6, false), (7, false), (8, false), (9, false), (10, false), (11, false), (15, false), (16, false), (17, false), (18, false), (12, false), (13, false), (14, true), (19, false), (20, false)] h3 (by kernel_rfl) (by decide +kernel) (by kernel_rfl) (by kernel_rfl) (by kernel_rfl) (fun c f h hq => by simp only [zAy, zAv, zAw, zAu, zAx] at hq) (PH.Le.refl _).sub ?_
        simp -dsimp -implicitDefEqProofs (disch := first | omega | assumption | (simp only [Option.isSome_some,Qt0]; done) | (simp only [UInt64.reduceToNat,UInt32.reduceToNat,UInt8.reduceToNat,List.length_cons,List.length_nil,List.length_append,Int.toNat_natCast] <;> omega) | fail) only [Nat.reduceLT,Nat.reduceLeDiff,Nat.reduceEqDiff,↓reduceIte,Int.reduceLT,Int.reduceLE,Int.reduceToNat,Int.reduceEq,Int.reduceNe,Nat.reduceAdd,UInt8.reduceOfNat,UInt16.reduceOfNat,UInt32.reduceOfNat,UInt64.reduceOfNat,UInt64.reduceToNat,UInt32.reduceToNat,UInt16.reduceToNat,UInt8.reduceToNat,Int.reduceAdd,Int.reduceSub,Int.reduceMul,Nat.reduceMul,Qp0,Qp1,Ql0,Qe0,d2]
        refine ⟨(PH.Le.refl _).sub, ?_⟩
        simp -dsimp -implicitDefEqProofs (disch := first | omega | assumption | (simp only [Option.isSome_some,Qt0]; done) | (simp only [UInt64.reduceToNat,UInt32.reduceToNat,UInt8.reduceToNat,List.length_cons,List.length_nil,List.length_append,Int.toNat_natCast] <;> omega) | fail) only [Nat.reduceLT,Nat.reduceLeDiff,Nat.reduceEqDiff,↓reduceIte,Int.reduceLT,Int.reduceLE,Int.reduceToNat,Int.reduceEq,Int.reduceNe,Nat.reduceAdd,UInt8.reduceOfNat,UInt16.reduceOfNat,UInt32.reduceOfNat,UInt64.reduceOfNat,UInt64.reduceToNat,UInt32.reduceToNat,UInt16.reduceToNat,UInt8.reduceToNat,Int.reduceAdd,Int.reduceSub,Int.reduceMul,Nat.reduceMul,Qp0,Qp1,Ql0,Qe0]
        refine ⟨(PH.Le.refl _).sub, ?_⟩
        simp -dsimp -implicitDefEqProofs (disch := first | omega | assumption | (simp only [Option.isSome_some,Qt0]; done) | (simp only [UInt64.reduceToNat,UInt32.reduceToNat,UInt8.reduceToNat,List.length_cons,List.length_nil,List.length_append,Int.toNat_natCast] <;> omega) | fail) only [Nat.reduceLT,Nat.reduceLeDiff,Nat.reduceEqDiff,↓reduceIte,Int.reduceLT,Int.reduceLE,Int.reduceToNat,Int.reduceEq,Int.reduceNe,Nat.reduceAdd,UInt8.reduceOfNat,UInt16.reduceOfNat,UInt32.reduceOfNat,UInt64.reduceOfNat,UInt64.reduceToNat,UInt32.reduceToNat,UInt16.reduceToNat,UInt8.reduceToNat,Int.reduceAdd,Int.reduceSub,Int.reduceMul,Nat.reduceMul,Qp0,Qp1,Ql0,Qe0]
        refine ⟨(PH.Le.refl _).sub, ?_⟩
        simp -dsimp -implicitDefEqProofs (disch := first | omega | assumption | (simp only [Option.isSome_some,Qt0]; done) | (simp only [UInt64.reduceToNat,UInt32.reduceToNat,UInt8.reduceToNat,List.length_cons,List.length_nil,List.length_append,Int.toNat_natCast] <;> omega) | fail) only [Nat.reduceLT,Nat.reduceLeDiff,Nat.reduceEqDiff,↓reduceIte,Int.reduceLT,Int.reduceLE,Int.reduceToNat,Int.reduceEq,Int.reduceNe,Nat.reduceAdd,UInt8.reduceOfNat,UInt16.reduceOfNat,UInt32.reduceOfNat,UInt64.reduceOfNat,UInt64.reduceToNat,UInt32.reduceToNat,UInt16.reduceToNat,UInt8.reduceToNat,Int.reduceAdd,Int.reduceSub,Int.reduceMul,Nat.reduceMul,Qp0,Qp1,Ql0,Qe0]
        exact ⟨_, hle.trans hle3, rfl, rfl⟩
      have d2 := decide_eq_false hbig
      have hXr : (bs rest).length = n + 4 := by rw [zA0, hrl]
      have hKt : Kn h3 (.slice (some ⟨b3, 0, none⟩) n (n + 4)) (bs (rest.take n)) := ⟨b3, 0, n + 4, _, _, by rw [zA0, List.length_take, Nat.min_eq_left (by omega)], by rw [zA0, List.length_take]; omega, hm3, by rw [hXr, zA0, List.length_take]; omega, by
        rw [zA0, List.length_take, Nat.min_eq_left (by omega), List.drop_zero, bs, bs, List.map_take]⟩
      have hKd : Kn h3 (.slice (some ⟨b3, n, none⟩) (n + 4 - n) (n + 4 - n)) (bs (rest.drop n)) := ⟨b3, n, n + 4 - n, _, _, by rw [zA0, List.length_drop, hrl], by rw [zA0, List.length_drop]; omega, hm3, by rw [hXr, zA0, List.length_drop]; omega, by
        rw [zA0, List.length_drop, bs, bs, List.map_drop, List.take_of_length_le (by rw [List.length_drop, List.length_map]; omega)]⟩
      have d3 : decide (n + 4 = n) = false := decide_eq_false (by omega)
      have hm13 := hle3.m _ _ hm12
      simp -dsimp -implicitDefEqProofs (disch := first | omega | assumption | (simp only [Option.isSome_some,Qt0]; done) | (simp only [UInt64.reduceToNat,UInt32.reduceToNat,UInt8.reduceToNat,List.length_cons,List.length_nil,List.length_append,Int.toNat_natCast] <;> omega) | fail) only [Nat.reduceLT,Nat.reduceLeDiff,Nat.reduceEqDiff,↓reduceIte,Int.reduceLT,Int.reduceLE,Int.reduceToNat,Int.reduceEq,Int.reduceNe,Nat.reduceAdd,UInt8.reduceOfNat,UInt16.reduceOfNat,UInt32.reduceOfNat,UInt64.reduceOfNat,UInt64.reduceToNat,UInt32.reduceToNat,UInt16.reduceToNat,UInt8.reduceToNat,Int.reduceAdd,Int.reduceSub,Int.reduceMul,Nat.reduceMul,Qp0,Qp1,Ql0,Qe0]
      refine zC9 [(0, false), (1, false), (2, false), (3, false), (4, false), (5, false), (6, false), (7, false), (8, false), (9, false), (10, false), (11, false), (15, false), (16, false), (17, false), (18, false), (12, false), (13, false), (14, true), (19, false), (20, false)] h3 (by kernel_rfl) (by decide +kernel) (by kernel_rfl) (by kernel_rfl) (by kernel_rfl) (fun c f h hq => by simp only [zAy, zAv, zAw, zAu, zAx] at hq) (PH.Le.refl _).sub ?_
      simp -dsimp -implicitDefEqProofs (disch := first | omega | assumption | (simp only [Option.isSome_some,Qt0]; done) | (simp only [UInt64.reduceToNat,UInt32.reduceToNat,UInt8.reduceToNat,List.length_cons,List.length_nil,List.length_append,Int.toNat_natCast] <;> omega) | fail) only [Nat.reduceLT,Nat.reduceLeDiff,Nat.reduceEqDiff,↓reduceIte,Int.reduceLT,Int.reduceLE,Int.reduceToNat,Int.reduceEq,Int.reduceNe,Nat.reduceAdd,UInt8.reduceOfNat,UInt16.reduceOfNat,UInt32.reduceOfNat,UInt64.reduceOfNat,UInt64.reduceToNat,UInt32.reduceToNat,UInt16.reduceToNat,UInt8.reduceToNat,Int.reduceAdd,Int.reduceSub,Int.reduceMul,Nat.reduceMul,Qp0,Qp1,Ql0,Qe0,d2,d3,cutAt]
      refine zBx Try.underlying77 Try.underlying5 Try.underlying9 (hKd.rs) (fun e => by cases e) ?_
      simp -dsimp -implicitDefEqProofs (disch := first | omega | assumption | (simp only [Option.isSome_some,Qt0]; done) | (simp only [UInt64.reduceToNat,UInt32.reduceToNat,UInt8.reduceToNat,List.length_cons,List.length_nil,List.length_append,Int.toNat_natCast] <;> omega) | fail) only [Nat.reduceLT,Nat.reduceLeDiff,Nat.reduceEqDiff,↓reduceIte,Int.reduceLT,Int.reduceLE,Int.reduceToNat,Int.reduceEq,Int.reduceNe,Nat.reduceAdd,UInt8.reduceOfNat,UInt16.reduceOfNat,UInt32.reduceOfNat,UInt64.reduceOfNat,UInt64.reduceToNat,UInt32.reduceToNat,UInt16.reduceToNat,UInt8.reduceToNat,Int.reduceAdd,Int.reduceSub,Int.reduceMul,Nat.reduceMul,Qp0,Qp1,Ql0,Qe0]
      refine Does_cat zA8 (b := b1) (o := 0) (X := bs (x :: y :: c)) (xs := bs [x, y]) hm13 (by rw [hX6]; omega) rfl hKt (by unfold maxLen; omega) (by omega) (fun v4 h4 hk4 hle4 => ?_)
      rw [← zBi] at hk4
      simp -dsimp -implicitDefEqProofs (disch := first | omega | assumption | (simp only [Option.isSome_some,Qt0]; done) | (simp only [UInt64.reduceToNat,UInt32.reduceToNat,UInt8.reduceToNat,List.length_cons,List.length_nil,List.length_append,Int.toNat_natCast] <;> omega) | fail) only [Nat.reduceLT,Nat.reduceLeDiff,Nat.reduceEqDiff,↓reduceIte,Int.reduceLT,Int.reduceLE,Int.reduceToNat,Int.reduceEq,Int.reduceNe,Nat.reduceAdd,UInt8.reduceOfNat,UInt16.reduceOfNat,UInt32.reduceOfNat,UInt64.reduceOfNat,UInt64.reduceToNat,UInt32.reduceToNat,UInt16.reduceToNat,UInt8.reduceToNat,Int.reduceAdd,Int.reduceSub,Int.reduceMul,Nat.reduceMul,Qp0,Qp1,Ql0,Qe0]
      refine ⟨hle4.sub, ?_⟩
      simp -dsimp -implicitDefEqProofs (disch := first | omega | assumption | (simp only [Option.isSome_some,Qt0]; done) | (simp only [UInt64.reduceToNat,UInt32.reduceToNat,UInt8.reduceToNat,List.length_cons,List.length_nil,List.length_append,Int.toNat_natCast] <;> omega) | fail) only [Nat.reduceLT,Nat.reduceLeDiff,Nat.reduceEqDiff,↓reduceIte,Int.reduceLT,Int.reduceLE,Int.reduceToNat,Int.reduceEq,Int.reduceNe,Nat.reduceAdd,UInt8.reduceOfNat,UInt16.reduceOfNat,UInt32.reduceOfNat,UInt64.reduceOfNat,UInt64.reduceToNat,UInt32.reduceToNat,UInt16.reduceToNat,UInt8.reduceToNat,Int.reduceAdd,Int.reduceSub,Int.reduceMul,Nat.reduceMul,Qp0,Qp1,Ql0,Qe0]
      refine (zD7 ([x, y] ++ rest.take n) (by simp; omega) _ w0 _ hk4).mono ?_
      rintro v h5 ⟨b5, rfl, hb5, rfl⟩
      have hG4 := Fm.four_length (Fm.sum ([x, y] ++ rest.take n))
      generalize Fm.four (Fm.sum ([x, y] ++ rest.take n)) = G at *
      have hm5 : (h4.new b5 ⟨bs G, 4⟩).m b5 = some ⟨bs G, 4⟩ := by rw [PH.new_m, if_pos rfl]
      have hle5 : PH.Le h3 (h4.new b5 ⟨bs G, 4⟩) := hle4.new _ _ (Nat.le_trans hle4.top hb5)
      generalize h4.new b5 ⟨bs G, 4⟩ = h5 at *
      simp -dsimp -implicitDefEqProofs (disch := first | omega | assumption | (simp only [Option.isSome_some,Qt0]; done) | (simp only [UInt64.reduceToNat,UInt32.reduceToNat,UInt8.reduceToNat,List.length_cons,List.length_nil,List.length_append,Int.toNat_natCast] <;> omega) | fail) only [Nat.reduceLT,Nat.reduceLeDiff,Nat.reduceEqDiff,↓reduceIte,Int.reduceLT,Int.reduceLE,Int.reduceToNat,Int.reduceEq,Int.reduceNe,Nat.reduceAdd,UInt8.reduceOfNat,UInt16.reduceOfNat,UInt32.reduceOfNat,UInt64.reduceOfNat,UInt64.reduceToNat,UInt32.reduceToNat,UInt16.reduceToNat,UInt8.reduceToNat,Int.reduceAdd,Int.reduceSub,Int.reduceMul,Nat.reduceMul,Qp0,Qp1,Ql0,Qe0]
      refine ⟨hle5.sub, ?_⟩
      simp -dsimp -implicitDefEqProofs (disch := first | omega | assumption | (simp only [Option.isSome_some,Qt0]; done) | (simp only [UInt64.reduceToNat,UInt32.reduceToNat,UInt8.reduceToNat,List.length_cons,List.length_nil,List.length_append,Int.toNat_natCast] <;> omega) | fail) only [Nat.reduceLT,Nat.reduceLeDiff,Nat.reduceEqDiff,↓reduceIte,Int.reduceLT,Int.reduceLE,Int.reduceToNat,Int.reduceEq,Int.reduceNe,Nat.reduceAdd,UInt8.reduceOfNat,UInt16.reduceOfNat,UInt32.reduceOfNat,UInt64.reduceOfNat,UInt64.reduceToNat,UInt32.reduceToNat,UInt16.reduceToNat,UInt8.reduceToNat,Int.reduceAdd,Int.reduceSub,Int.reduceMul,Nat.reduceMul,Qp0,Qp1,Ql0,Qe0]
      refine zBx Try.underlying77 Try.underlying5 Try.underlying9 (Rs.blk (k := ⟨bs G, 4⟩) hm5 (by simp only [zA0]; omega)) (fun e => by cases e) ?_
      simp -dsimp -implicitDefEqProofs (disch := first | omega | assumption | (simp only [Option.isSome_some,Qt0]; done) | (simp only [UInt64.reduceToNat,UInt32.reduceToNat,UInt8.reduceToNat,List.length_cons,List.length_nil,List.length_append,Int.toNat_natCast] <;> omega) | fail) only [Nat.reduceLT,Nat.reduceLeDiff,Nat.reduceEqDiff,↓reduceIte,Int.reduceLT,Int.reduceLE,Int.reduceToNat,Int.reduceEq,Int.reduceNe,Nat.reduceAdd,UInt8.reduceOfNat,UInt16.reduceOfNat,UInt32.reduceOfNat,UInt64.reduceOfNat,UInt64.reduceToNat,UInt32.reduceToNat,UInt16.reduceToNat,UInt8.reduceToNat,Int.reduceAdd,Int.reduceSub,Int.reduceMul,Nat.reduceMul,Qp0,Qp1,Ql0,Qe0]
      refine ⟨hle5.sub, ?_⟩
      by_cases hGd : G = rest.drop n
      · have d4 : decide (¬ G = rest.drop n) = false := decide_eq_false (fun e => e hGd)
        rw [if_pos ⟨by omega, hGd⟩] at hop
        rw [hop]
        simp -dsimp -implicitDefEqProofs (disch := first | omega | assumption | (simp only [Option.isSome_some,Qt0]; done) | (simp only [UInt64.reduceToNat,UInt32.reduceToNat,UInt8.reduceToNat,List.length_cons,List.length_nil,List.length_append,Int.toNat_natCast] <;> omega) | fail) only [Nat.reduceLT,Nat.reduceLeDiff,Nat.reduceEqDiff,↓reduceIte,Int.reduceLT,Int.reduceLE,Int.reduceToNat,Int.reduceEq,Int.reduceNe,Nat.reduceAdd,UInt8.reduceOfNat,UInt16.reduceOfNat,UInt32.reduceOfNat,UInt64.reduceOfNat,UInt64.reduceToNat,UInt32.reduceToNat,UInt16.reduceToNat,UInt8.reduceToNat,Int.reduceAdd,Int.reduceSub,Int.reduceMul,Nat.reduceMul,Qp0,Qp1,Ql0,Qe0,d4]
        refine zBx Try.underlying77 Try.underlying5 Try.underlying9 ((hKt.more hle5).rs) (fun e => by cases e) ?_
        simp -dsimp -implicitDefEqProofs (disch := first | omega | assumption | (simp only [Option.isSome_some,Qt0]; done) | (simp only [UInt64.reduceToNat,UInt32.reduceToNat,UInt8.reduceToNat,List.length_cons,List.length_nil,List.length_append,Int.toNat_natCast] <;> omega) | fail) only [Nat.reduceLT,Nat.reduceLeDiff,Nat.reduceEqDiff,↓reduceIte,Int.reduceLT,Int.reduceLE,Int.reduceToNat,Int.reduceEq,Int.reduceNe,Nat.reduceAdd,UInt8.reduceOfNat,UInt16.reduceOfNat,UInt32.reduceOfNat,UInt64.reduceOfNat,UInt64.reduceToNat,UInt32.reduceToNat,UInt16.reduceToNat,UInt8.reduceToNat,Int.reduceAdd,Int.reduceSub,Int.reduceMul,Nat.reduceMul,Qp0,Qp1,Ql0,Qe0]
        refine ⟨_, hle.trans (hle3.trans hle5), ?_, rfl⟩
        show _ = _
        congr 4
      · have d4 : decide (¬ G = rest.drop n) = true := decide_eq_true hGd
        rw [if_neg (fun e => hGd e.2)] at hop
        rw [hop]
        simp -dsimp -implicitDefEqProofs (disch := first | omega | assumption | (simp only [Option.isSome_some,Qt0]; done) | (simp only [UInt64.reduceToNat,UInt32.reduceToNat,UInt8.reduceToNat,List.length_cons,List.length_nil,List.length_append,Int.toNat_natCast] <;> omega) | fail) only [Nat.reduceLT,Nat.reduceLeDiff,Nat.reduceEqDiff,↓reduceIte,Int.reduceLT,Int.reduceLE,Int.reduceToNat,Int.reduceEq,Int.reduceNe,Nat.reduceAdd,UInt8.reduceOfNat,UInt16.reduceOfNat,UInt32.reduceOfNat,UInt64.reduceOfNat,UInt64.reduceToNat,UInt32.reduceToNat,UInt16.reduceToNat,UInt8.reduceToNat,Int.reduceAdd,Int.reduceSub,Int.reduceMul,Nat.reduceMul,Qp0,Qp1,Ql0,Qe0,d4]
        exact ⟨_, hle.trans (hle3.trans hle5), rfl, rfl⟩
def openO (s : List UInt8) (a : Int) : Option (List UInt8 × Nat) := if 0 ≤ a ∧ a < s.length ∧ s.getD a.toNat 0 = 1 then Fm.openL s (a.toNat + 1) else none
def OO (s : List UInt8) (a : Int) (h : PH) (o : Option (List UInt8 × Nat)) (v : Value) (h' : PH) : Prop := match o with
  | some (p, k) => v = .tuple #[str p, .int .i64 k, .nilIface] ∧ h' = h
  | none => ∃ be, v = .tuple #[str [], .int .i64 a, errV be] ∧ h.top ≤ be ∧ h' = h.new be ⟨[str frameT, .int .i64 a, codeV (if a = s.length then 7 else 2)], 3⟩
set_option maxRecDepth 20000 in
set_option maxHeartbeats 1000000 in
theorem Open_any (s : List UInt8) (a : Int) (hs : s.length ≤ 2900000) (w0 : World) (h : PH) : PCalls Try.prog w0 57 [str s, .int .i64 a] h fun v h' => OO s a h (openO s a) v h' := by
  refine zAp Try.func57 (by kernel_rfl) rfl _ Try.ntmps57 (by kernel_rfl) (by kernel_rfl) _ Try.results57 ?_
  have hE := Lib.hid (fun c => @zCq frameT a 44 (.int .i64 c) w0 h)
  by_cases h1 : a = (s.length : Int)
  · have ho : openO s a = none := by unfold openO; rw [if_neg (by omega)]
    rw [ho]
    have hc : (if a = (s.length : Int) then (7 : Int) else 2) = 7 := if_pos h1
    unfold OO
    simp only [hc]
    simp -dsimp -implicitDefEqProofs (disch := first | omega | assumption | (simp only [Option.isSome_some,Qt0]; done) | (simp only [UInt64.reduceToNat,UInt32.reduceToNat,UInt8.reduceToNat,List.length_cons,List.length_nil,List.length_append,Int.toNat_natCast] <;> omega) | fail) only [Nat.reduceLT,Nat.reduceLeDiff,Nat.reduceEqDiff,↓reduceIte,Int.reduceLT,Int.reduceLE,Int.reduceToNat,Int.reduceEq,Int.reduceNe,Nat.reduceAdd,UInt8.reduceOfNat,UInt16.reduceOfNat,UInt32.reduceOfNat,UInt64.reduceOfNat,UInt64.reduceToNat,UInt32.reduceToNat,UInt16.reduceToNat,UInt8.reduceToNat,Int.reduceAdd,Int.reduceSub,Int.reduceMul,Nat.reduceMul,Qp0,Qp1,Ql0,Qe0,h1]
    rw [h1] at hE
    refine (hE.out 7).mono ?_
    rintro v hz ⟨be, rfl, hbe, rfl⟩
    simp -dsimp -implicitDefEqProofs (disch := first | omega | assumption | (simp only [Option.isSome_some,Qt0]; done) | (simp only [UInt64.reduceToNat,UInt32.reduceToNat,UInt8.reduceToNat,List.length_cons,List.length_nil,List.length_append,Int.toNat_natCast] <;> omega) | fail) only [Nat.reduceLT,Nat.reduceLeDiff,Nat.reduceEqDiff,↓reduceIte,Int.reduceLT,Int.reduceLE,Int.reduceToNat,Int.reduceEq,Int.reduceNe,Nat.reduceAdd,UInt8.reduceOfNat,UInt16.reduceOfNat,UInt32.reduceOfNat,UInt64.reduceOfNat,UInt64.reduceToNat,UInt32.reduceToNat,UInt16.reduceToNat,UInt8.reduceToNat,Int.reduceAdd,Int.reduceSub,Int.reduceMul,Nat.reduceMul,Qp0,Qp1,Ql0,Qe0]
    exact ⟨_, PH.Le.refl _, be, by rw [h1], hbe, by rw [hc, h1]; rfl⟩
  have hc : (if a = (s.length : Int) then (7 : Int) else 2) = 2 := if_neg h1
  by_cases h2 : 0 ≤ a
  rotate_left
  · have ho : openO s a = none := by unfold openO; rw [if_neg (by omega)]
    rw [ho]
    unfold OO
    simp only [hc]
    have d2 := decide_eq_false h2
    simp -dsimp -implicitDefEqProofs (disch := first | omega | assumption | (simp only [Option.isSome_some,Qt0]; done) | (simp only [UInt64.reduceToNat,UInt32.reduceToNat,UInt8.reduceToNat,List.length_cons,List.length_nil,List.length_append,Int.toNat_natCast] <;> omega) | fail) only [Nat.reduceLT,Nat.reduceLeDiff,Nat.reduceEqDiff,↓reduceIte,Int.reduceLT,Int.reduceLE,Int.reduceToNat,Int.reduceEq,Int.reduceNe,Nat.reduceAdd,UInt8.reduceOfNat,UInt16.reduceOfNat,UInt32.reduceOfNat,UInt64.reduceOfNat,UInt64.reduceToNat,UInt32.reduceToNat,UInt16.reduceToNat,UInt8.reduceToNat,Int.reduceAdd,Int.reduceSub,Int.reduceMul,Nat.reduceMul,Qp0,Qp1,Ql0,Qe0,h1,d2]
    refine (hE.out 2).mono ?_
    rintro v hz ⟨be, rfl, hbe, rfl⟩
    simp -dsimp -implicitDefEqProofs (disch := first | omega | assumption | (simp only [Option.isSome_some,Qt0]; done) | (simp only [UInt64.reduceToNat,UInt32.reduceToNat,UInt8.reduceToNat,List.length_cons,List.length_nil,List.length_append,Int.toNat_natCast] <;> omega) | fail) only [Nat.reduceLT,Nat.reduceLeDiff,Nat.reduceEqDiff,↓reduceIte,Int.reduceLT,Int.reduceLE,Int.reduceToNat,Int.reduceEq,Int.reduceNe,Nat.reduceAdd,UInt8.reduceOfNat,UInt16.reduceOfNat,UInt32.reduceOfNat,UInt64.reduceOfNat,UInt64.reduceToNat,UInt32.reduceToNat,UInt16.reduceToNat,UInt8.reduceToNat,Int.reduceAdd,Int.reduceSub,Int.reduceMul,Nat.reduceMul,Qp0,Qp1,Ql0,Qe0]
    exact ⟨_, PH.Le.refl _, be, rfl, hbe, by rw [hc]; rfl⟩
  have d2 := decide_eq_true h2
  by_cases h3 : a < (s.length : Int)
  rotate_left
  · have ho : openO s a = none := by unfold openO; rw [if_neg (by omega)]
    rw [ho]
    unfold OO
    simp only [hc]
    have d3 := decide_eq_false h3
    simp -dsimp -implicitDefEqProofs (disch := first | omega | assumption | (simp only [Option.isSome_some,Qt0]; done) | (simp only [UInt64.reduceToNat,UInt32.reduceToNat,UInt8.reduceToNat,List.length_cons,List.length_nil,List.length_append,Int.toNat_natCast] <;> omega) | fail) only [Nat.reduceLT,Nat.reduceLeDiff,Nat.reduceEqDiff,↓reduceIte,Int.reduceLT,Int.reduceLE,Int.reduceToNat,Int.reduceEq,Int.reduceNe,Nat.reduceAdd,UInt8.reduceOfNat,UInt16.reduceOfNat,UInt32.reduceOfNat,UInt64.reduceOfNat,UInt64.reduceToNat,UInt32.reduceToNat,UInt16.reduceToNat,UInt8.reduceToNat,Int.reduceAdd,Int.reduceSub,Int.reduceMul,Nat.reduceMul,Qp0,Qp1,Ql0,Qe0,h1,d2,d3]
    refine (hE.out 2).mono ?_
    rintro v hz ⟨be, rfl, hbe, rfl⟩
    simp -dsimp -implicitDefEqProofs (disch := first | omega | assumption | (simp only [Option.isSome_some,Qt0]; done) | (simp only [UInt64.reduceToNat,UInt32.reduceToNat,UInt8.reduceToNat,List.length_cons,List.length_nil,List.length_append,Int.toNat_natCast] <;> omega) | fail) only [Nat.reduceLT,Nat.reduceLeDiff,Nat.reduceEqDiff,↓reduceIte,Int.reduceLT,Int.reduceLE,Int.reduceToNat,Int.reduceEq,Int.reduceNe,Nat.reduceAdd,UInt8.reduceOfNat,UInt16.reduceOfNat,UInt32.reduceOfNat,UInt64.reduceOfNat,UInt64.reduceToNat,UInt32.reduceToNat,UInt16.reduceToNat,UInt8.reduceToNat,Int.reduceAdd,Int.reduceSub,Int.reduceMul,Nat.reduceMul,Qp0,Qp1,Ql0,Qe0]
    exact ⟨_, PH.Le.refl _, be, rfl, hbe, by rw [hc]; rfl⟩
  have d3 := decide_eq_true h3
  obtain ⟨n, rfl⟩ := Int.eq_ofNat_of_zero_le h2
  have htn : ((n : Int)).toNat = n := Int.toNat_natCast n
  obtain ⟨x, hx⟩ : ∃ x, s.getD n 0 = x := ⟨_, rfl⟩
  by_cases h4 : x = 1
  rotate_left
  · have ho : openO s n = none := by unfold openO; rw [if_neg (by rw [htn, hx]; rintro ⟨_, _, e⟩; exact h4 e)]
    rw [ho]
    unfold OO
    simp only [hc]
    have d4 := decide_eq_false h4
    simp -dsimp -implicitDefEqProofs (disch := first | omega | assumption | (simp only [Option.isSome_some,Qt0]; done) | (simp only [UInt64.reduceToNat,UInt32.reduceToNat,UInt8.reduceToNat,List.length_cons,List.length_nil,List.length_append,Int.toNat_natCast] <;> omega) | fail) only [Nat.reduceLT,Nat.reduceLeDiff,Nat.reduceEqDiff,↓reduceIte,Int.reduceLT,Int.reduceLE,Int.reduceToNat,Int.reduceEq,Int.reduceNe,Nat.reduceAdd,UInt8.reduceOfNat,UInt16.reduceOfNat,UInt32.reduceOfNat,UInt64.reduceOfNat,UInt64.reduceToNat,UInt32.reduceToNat,UInt16.reduceToNat,UInt8.reduceToNat,Int.reduceAdd,Int.reduceSub,Int.reduceMul,Nat.reduceMul,Qp0,Qp1,Ql0,Qe0,h1,d2,d3,hx,d4]
    refine (hE.out 2).mono ?_
    rintro v hz ⟨be, rfl, hbe, rfl⟩
    simp -dsimp -implicitDefEqProofs (disch := first | omega | assumption | (simp only [Option.isSome_some,Qt0]; done) | (simp only [UInt64.reduceToNat,UInt32.reduceToNat,UInt8.reduceToNat,List.length_cons,List.length_nil,List.length_append,Int.toNat_natCast] <;> omega) | fail) only [Nat.reduceLT,Nat.reduceLeDiff,Nat.reduceEqDiff,↓reduceIte,Int.reduceLT,Int.reduceLE,Int.reduceToNat,Int.reduceEq,Int.reduceNe,Nat.reduceAdd,UInt8.reduceOfNat,UInt16.reduceOfNat,UInt32.reduceOfNat,UInt64.reduceOfNat,UInt64.reduceToNat,UInt32.reduceToNat,UInt16.reduceToNat,UInt8.reduceToNat,Int.reduceAdd,Int.reduceSub,Int.reduceMul,Nat.reduceMul,Qp0,Qp1,Ql0,Qe0]
    exact ⟨_, PH.Le.refl _, be, rfl, hbe, by rw [hc]; rfl⟩
  have d4 := decide_eq_true h4
  have ho : openO s n = Fm.openL s (n + 1) := by unfold openO; rw [if_pos ⟨h2, h3, by rw [htn, hx]; exact h4⟩, htn]
  rw [ho]
  have hO := @open_any s (n + 1) (by omega) (by omega) w0 h
  rw [show ((n + 1 : Nat) : Int) = (n : Int) + 1 from rfl] at hO
  have hO := Lib.hid hO
  cases h5 : Fm.openL s (n + 1) with
  | none =>
    rw [h5] at hO
    unfold OO
    simp only [hc]
    simp -dsimp -implicitDefEqProofs (disch := first | omega | assumption | (simp only [Option.isSome_some,Qt0]; done) | (simp only [UInt64.reduceToNat,UInt32.reduceToNat,UInt8.reduceToNat,List.length_cons,List.length_nil,List.length_append,Int.toNat_natCast] <;> omega) | fail) only [Nat.reduceLT,Nat.reduceLeDiff,Nat.reduceEqDiff,↓reduceIte,Int.reduceLT,Int.reduceLE,Int.reduceToNat,Int.reduceEq,Int.reduceNe,Nat.reduceAdd,UInt8.reduceOfNat,UInt16.reduceOfNat,UInt32.reduceOfNat,UInt64.reduceOfNat,UInt64.reduceToNat,UInt32.reduceToNat,UInt16.reduceToNat,UInt8.reduceToNat,Int.reduceAdd,Int.reduceSub,Int.reduceMul,Nat.reduceMul,Qp0,Qp1,Ql0,Qe0,h1,d2,d3,hx,d4]
    refine hO.out.mono ?_
    rintro v hz ⟨rfl, rfl⟩
    simp -dsimp -implicitDefEqProofs (disch := first | omega | assumption | (simp only [Option.isSome_some,Qt0]; done) | (simp only [UInt64.reduceToNat,UInt32.reduceToNat,UInt8.reduceToNat,List.length_cons,List.length_nil,List.length_append,Int.toNat_natCast] <;> omega) | fail) only [Nat.reduceLT,Nat.reduceLeDiff,Nat.reduceEqDiff,↓reduceIte,Int.reduceLT,Int.reduceLE,Int.reduceToNat,Int.reduceEq,Int.reduceNe,Nat.reduceAdd,UInt8.reduceOfNat,UInt16.reduceOfNat,UInt32.reduceOfNat,UInt64.reduceOfNat,UInt64.reduceToNat,UInt32.reduceToNat,UInt16.reduceToNat,UInt8.reduceToNat,Int.reduceAdd,Int.reduceSub,Int.reduceMul,Nat.reduceMul,Qp0,Qp1,Ql0,Qe0]
    refine (hE.out 2).mono ?_
    rintro v hz ⟨be, rfl, hbe, rfl⟩
    simp -dsimp -implicitDefEqProofs (disch := first | omega | assumption | (simp only [Option.isSome_some,Qt0]; done) | (simp only [UInt64.reduceToNat,UInt32.reduceToNat,UInt8.reduceToNat,List.length_cons,List.length_nil,List.length_append,Int.toNat_natCast] <;> omega) | fail) only [Nat.reduceLT,Nat.reduceLeDiff,Nat.reduceEqDiff,↓reduceIte,Int.reduceLT,Int.reduceLE,Int.reduceToNat,Int.reduceEq,Int.reduceNe,Nat.reduceAdd,UInt8.reduceOfNat,UInt16.reduceOfNat,UInt32.reduceOfNat,UInt64.reduceOfNat,UInt64.reduceToNat,UInt32.reduceToNat,UInt16.reduceToNat,UInt8.reduceToNat,Int.reduceAdd,Int.reduceSub,Int.reduceMul,Nat.reduceMul,Qp0,Qp1,Ql0,Qe0]
    exact ⟨_, PH.Le.refl _, be, rfl, hbe, by rw [hc]; rfl⟩
  | some q =>
    obtain ⟨p, k⟩ := q
    rw [h5] at hO
    unfold OO
    simp -dsimp -implicitDefEqProofs (disch := first | omega | assumption | (simp only [Option.isSome_some,Qt0]; done) | (simp only [UInt64.reduceToNat,UInt32.reduceToNat,UInt8.reduceToNat,List.length_cons,List.length_nil,List.length_append,Int.toNat_natCast] <;> omega) | fail) only [Nat.reduceLT,Nat.reduceLeDiff,Nat.reduceEqDiff,↓reduceIte,Int.reduceLT,Int.reduceLE,Int.reduceToNat,Int.reduceEq,Int.reduceNe,Nat.reduceAdd,UInt8.reduceOfNat,UInt16.reduceOfNat,UInt32.reduceOfNat,UInt64.reduceOfNat,UInt64.reduceToNat,UInt32.reduceToNat,UInt16.reduceToNat,UInt8.reduceToNat,Int.reduceAdd,Int.reduceSub,Int.reduceMul,Nat.reduceMul,Qp0,Qp1,Ql0,Qe0,h1,d2,d3,hx,d4]
    refine hO.out.mono ?_
    rintro v hz ⟨rfl, rfl⟩
    simp -dsimp -implicitDefEqProofs (disch := first | omega | assumption | (simp only [Option.isSome_some,Qt0]; done) | (simp only [UInt64.reduceToNat,UInt32.reduceToNat,UInt8.reduceToNat,List.length_cons,List.length_nil,List.length_append,Int.toNat_natCast] <;> omega) | fail) only [Nat.reduceLT,Nat.reduceLeDiff,Nat.reduceEqDiff,↓reduceIte,Int.reduceLT,Int.reduceLE,Int.reduceToNat,Int.reduceEq,Int.reduceNe,Nat.reduceAdd,UInt8.reduceOfNat,UInt16.reduceOfNat,UInt32.reduceOfNat,UInt64.reduceOfNat,UInt64.reduceToNat,UInt32.reduceToNat,UInt16.reduceToNat,UInt8.reduceToNat,Int.reduceAdd,Int.reduceSub,Int.reduceMul,Nat.reduceMul,Qp0,Qp1,Ql0,Qe0]
    exact ⟨_, PH.Le.refl _, by trivial, rfl⟩
end Go.Proofs.Ytblikpbaeippaaa


namespace Go.Proofs.Ytblikpbaeippaaa
set_option linter.unusedVariables false
set_option linter.unusedSimpArgs false
open Go.RowKit Px Fm
theorem enc_get0 : ∀ (r : List UInt8) (k : Nat), (enc r)[2 * k]? = r[k]?.map fun c : UInt8 => (64 : UInt8) ||| c >>> 4
  | [], k => by simp [enc]
  | c :: r, 0 => rfl
  | c :: r, k + 1 => by rw [zDq, show 2 * (k + 1) = 2 * k + 1 + 1 by omega, List.getElem?_cons_succ, List.getElem?_cons_succ, List.getElem?_cons_succ]; exact enc_get0 r k
theorem enc_get1 : ∀ (r : List UInt8) (k : Nat), (enc r)[2 * k + 1]? = r[k]?.map fun c : UInt8 => (64 : UInt8) ||| c &&& 15
  | [], k => by simp [enc]
  | c :: r, 0 => rfl
  | c :: r, k + 1 => by rw [zDq, show 2 * (k + 1) + 1 = 2 * k + 1 + 1 + 1 by omega, List.getElem?_cons_succ, List.getElem?_cons_succ, List.getElem?_cons_succ]; exact enc_get1 r k
theorem enc_letter (r : List UInt8) (j : Nat) (a : UInt8) (h : (enc r)[j]? = some a) : lettered a = true := by
  rcases (show j = 2 * (j / 2) ∨ j = 2 * (j / 2) + 1 by omega) with e | e
  · rw [e, enc_get0] at h
    obtain ⟨c, _, rfl⟩ := Option.map_eq_some_iff.1 h
    exact hi_letter c
  · rw [e, enc_get1] at h
    obtain ⟨c, _, rfl⟩ := Option.map_eq_some_iff.1 h
    exact lo_letter c
end Go.Proofs.Ytblikpbaeippaaa


namespace Go.Proofs.Ytblikpbaeippaaa
set_option linter.unusedVariables false
set_option linter.unusedSimpArgs false
open Go.RowKit Px Wr
structure Pt where
  k : Nat
  g : Nat
  p : Nat
  t : List UInt8
structure Pt.Ok (x : Pt) : Prop where
  k0 : 1 ≤ x.k
  k1 : x.k ≤ 4
  g0 : 1 ≤ x.g
  g1 : x.g ≤ 1099511627776
  p1 : x.p ≤ 1099511627776
  t1 : x.t.length ≤ 4096
  tz : x.k ≠ 2 → x.t = []
def payload (x : Pt) : List UInt8 := numB x.k ++ (numB x.g ++ (numB x.p ++ (numB x.t.length ++ x.t)))
def sealP (x : Pt) : List UInt8 := Fm.frame (payload x)
theorem zE6 {x : Pt} (h : x.Ok) : (payload x).length ≤ 4140 := by
  have h1 := zBg (n := x.k) (by have := h.k1; omega)
  have h2 := zBg (n := x.g) (by have := h.g1; omega)
  have h3 := zBg (n := x.p) (by have := h.p1; omega)
  have h4 := zBg (n := x.t.length) (by have := h.t1; omega)
  have h5 := h.t1
  simp only [payload, List.length_append]; omega
theorem zDh (x : Pt) : (sealP x).length = 2 * (payload x).length + 21 := Fm.frame_length _
theorem zB9 (x : Pt) : 0 < (sealP x).length := by rw [zDh]; omega
theorem zDo {x : Pt} (h : x.Ok) : (sealP x).length ≤ 8301 := by have := zE6 h; rw [zDh]; omega
def stDone : St → Bool
  | .ok [] => true
  | _ => false
theorem stDone_iff {s : St} : stDone s = true ↔ s = .ok [] := by
  cases s with
  | ok t => cases t <;> simp [stDone]
  | bad q => simp [stDone]
def partP (t : List UInt8) : Option Pt :=
  let a := numS 4 t.length (.ok t)
  let b := numS 1099511627776 t.length a.2
  let c := numS 1099511627776 t.length b.2
  let d := txtS 4096 t.length c.2
  if stDone d.2 = true ∧ 1 ≤ a.1 ∧ 1 ≤ b.1 ∧ (a.1 = 2 ∨ d.1 = []) then some ⟨a.1, b.1, c.1, d.1⟩ else none
theorem stepB {α : Type} {p : List UInt8 → Option (α × List UInt8)} {z a : α} {n : Nat} {st : St} {u : List UInt8} (h : st.step p z n = (a, .ok u)) : ∃ t, st = .ok t ∧ p t = some (a, u) := by
  cases st with
  | ok t =>
    refine ⟨t, rfl, ?_⟩
    unfold St.step at h
    cases hp : p t with
    | none => simp [hp] at h
    | some q =>
      simp [hp] at h
      obtain ⟨h1, h2⟩ := h
      rw [← h1, ← h2]
  | bad q => simp [St.step] at h
theorem partP_some {t : List UInt8} {x : Pt} (h : partP t = some x) : x.Ok ∧ t = payload x := by
  unfold partP at h
  rcases ha : numS 4 t.length (.ok t) with ⟨a, sa⟩
  rw [ha] at h
  simp only at h
  rcases hb : numS 1099511627776 t.length sa with ⟨b, sb⟩
  rw [hb] at h
  simp only at h
  rcases hc : numS 1099511627776 t.length sb with ⟨c, sc⟩
  rw [hc] at h
  simp only at h
  rcases hd : txtS 4096 t.length sc with ⟨d, sd⟩
  rw [hd] at h
  simp only at h
  split at h
  · rename_i hcond
    obtain ⟨h1, h2, h3, h4⟩ := hcond
    obtain rfl := Option.some.inj h
    have h1 := stDone_iff.1 h1
    subst h1
    obtain ⟨t3, rfl, e3⟩ := stepB hd
    obtain ⟨t2, rfl, e2⟩ := stepB hc
    obtain ⟨t1, rfl, e1⟩ := stepB hb
    obtain ⟨t0, e0, e0'⟩ := stepB ha
    cases e0
    obtain ⟨f3, g3⟩ := txtP_inv e3
    obtain ⟨f2, g2, _⟩ := zDn e2
    obtain ⟨f1, g1, _⟩ := zDn e1
    obtain ⟨f0, g0, _⟩ := zDn e0'
    refine ⟨⟨h2, by simp only; omega, h3, by simp only; omega, by simp only; omega, by simp only; omega, fun hk => h4.resolve_left hk⟩, ?_⟩
    rw [f0, f1, f2, f3]
    simp [payload]
  · cases h
theorem partP_of {x : Pt} (h : x.Ok) : partP (payload x) = some x := by
  have k1 := h.k1
  have g1 := h.g1
  have p1 := h.p1
  have t1 := h.t1
  generalize hn : (payload x).length = n
  have e0 : numS 4 n (.ok (payload x)) = (x.k, .ok (numB x.g ++ (numB x.p ++ (numB x.t.length ++ x.t)))) := numS_ok n (zD5 _ (by omega) (by unfold top62; omega))
  have e1 : numS 1099511627776 n (.ok (numB x.g ++ (numB x.p ++ (numB x.t.length ++ x.t)))) = (x.g, .ok (numB x.p ++ (numB x.t.length ++ x.t))) := numS_ok n (zD5 _ (by omega) (by unfold top62; omega))
  have e2 : numS 1099511627776 n (.ok (numB x.p ++ (numB x.t.length ++ x.t))) = (x.p, .ok (numB x.t.length ++ x.t)) := numS_ok n (zD5 _ (by omega) (by unfold top62; omega))
  have e3 : txtS 4096 n (.ok (numB x.t.length ++ x.t)) = (x.t, .ok []) := by
    have := txtP_put (s := x.t) (most := 4096) [] (by omega) (by unfold top62; omega)
    rw [List.append_nil] at this
    unfold txtS St.step
    simp only [this]
  unfold partP
  rw [hn, e0]
  simp only
  rw [e1]
  simp only
  rw [e2]
  simp only
  rw [e3]
  simp only
  have hz : x.k = 2 ∨ x.t = [] := by
    by_cases hk : x.k = 2
    · exact .inl hk
    · exact .inr (h.tz hk)
  exact if_pos ⟨rfl, h.k0, h.g0, hz⟩
def partAt (s : List UInt8) (a : Nat) : Option (Pt × Nat) := match openO s a with
  | none => none
  | some (t, n) => (partP t).map fun x => (x, n)
theorem drop_one {s : List UInt8} {a : Nat} (h : a < s.length) : s.drop a = s.getD a 0 :: s.drop (a + 1) := by
  rw [List.drop_eq_getElem_cons h, List.getD, List.getElem?_eq_getElem h]; rfl
theorem zGk {s : List UInt8} {a : Nat} {x : Pt} {n : Nat} (h : partAt s a = some (x, n)) : x.Ok ∧ n = a + (sealP x).length ∧ ∃ r, s.drop a = sealP x ++ r := by
  unfold partAt at h
  cases ho : openO s a with
  | none => rw [ho] at h; cases h
  | some q =>
    obtain ⟨t, mm⟩ := q
    rw [ho] at h
    simp only at h
    obtain ⟨y, hy, e⟩ := Option.map_eq_some_iff.1 h
    cases e
    obtain ⟨hok, rfl⟩ := partP_some hy
    unfold openO at ho
    by_cases hc : (0 : Int) ≤ (a : Int) ∧ (a : Int) < s.length ∧ s.getD (a : Int).toNat 0 = 1
    · rw [if_pos hc, Int.toNat_natCast] at ho
      rw [Int.toNat_natCast] at hc
      obtain ⟨_, hm, r, hr⟩ := Fm.open_some s (a + 1) _ _ ho
      refine ⟨hok, by rw [hm, zDh]; omega, r, ?_⟩
      rw [drop_one (by omega), hc.2.2, hr]
      rfl
    · rw [if_neg hc] at ho; cases ho
theorem zFo {s : List UInt8} {a : Nat} {x : Pt} {r : List UInt8} (hx : x.Ok) (h : s.drop a = sealP x ++ r) : partAt s a = some (x, a + (sealP x).length) := by
  have hl : a < s.length := by
    have := congrArg List.length h
    rw [List.length_drop, List.length_append] at this
    have := zB9 x
    omega
  have h1 := drop_one hl
  rw [h1] at h
  unfold sealP Fm.frame at h
  injection h with e1 e2
  have ho : openO s (a : Int) = some (payload x, a + 1 + 2 * ((payload x).length + 10)) := by
    unfold openO
    rw [if_pos ⟨by omega, by omega, by rw [Int.toNat_natCast]; exact e1⟩, Int.toNat_natCast]
    exact Fm.open_frame s (a + 1) (payload x) r (by have := zE6 hx; omega) e2
  unfold partAt
  rw [ho]
  simp only [partP_of hx, Option.map_some, zDh]
  congr 2
  omega
end Go.Proofs.Ytblikpbaeippaaa


namespace Go.Proofs.Ytblikpbaeippaaa
set_option linter.unusedVariables false
set_option linter.unusedSimpArgs false
open Go.RowKit Px Wr
def flatP (ps : List Pt) : List UInt8 := ps.flatMap sealP
theorem zE0 : flatP [] = [] := rfl
theorem zBo (x : Pt) (ps : List Pt) : flatP (x :: ps) = sealP x ++ flatP ps := rfl
theorem zBq (a b : List Pt) : flatP (a ++ b) = flatP a ++ flatP b := by simp [flatP]
def AllOk (ps : List Pt) : Prop := ∀ x ∈ ps, x.Ok
theorem AllOk.cons {x : Pt} {ps : List Pt} (h : AllOk (x :: ps)) : x.Ok ∧ AllOk ps := ⟨h x List.mem_cons_self, fun y hy => h y (List.mem_cons_of_mem _ hy)⟩
theorem AllOk.app {a b : List Pt} (ha : AllOk a) (hb : AllOk b) : AllOk (a ++ b) := fun x hx => (List.mem_append.1 hx).elim (ha x) (hb x)
theorem AllOk.left {a b : List Pt} (h : AllOk (a ++ b)) : AllOk a := fun x hx => h x (List.mem_append.2 (.inl hx))
theorem AllOk.right {a b : List Pt} (h : AllOk (a ++ b)) : AllOk b := fun x hx => h x (List.mem_append.2 (.inr hx))
theorem AllOk.take {ps : List Pt} (h : AllOk ps) (k : Nat) : AllOk (ps.take k) := fun x hx => h x (List.mem_of_mem_take hx)
theorem AllOk.drop {ps : List Pt} (h : AllOk ps) (k : Nat) : AllOk (ps.drop k) := fun x hx => h x (List.mem_of_mem_drop hx)
theorem seal_at {x : Pt} {j : Nat} {a : UInt8} (h : (sealP x)[j]? = some a) : (j = 0 ∧ a = 1) ∨ (0 < j ∧ Fm.lettered a = true) := by
  unfold sealP Fm.frame at h
  cases j with
  | zero => left; simp at h; exact ⟨rfl, h.symm⟩
  | succ j => right; exact ⟨by omega, enc_letter _ j a (by simpa using h)⟩
theorem seal_zero (x : Pt) : (sealP x)[0]? = some 1 := rfl
theorem seal_ne0 {x : Pt} {j : Nat} {a : UInt8} (h : (sealP x)[j]? = some a) : a ≠ 0 := by
  rcases seal_at h with ⟨_, rfl⟩ | ⟨_, hl⟩
  · decide
  · exact (Fm.letter_ne a hl).1
theorem seal_one {x y : Pt} {r t : List UInt8} (hx : x.Ok) (hy : y.Ok) (h : sealP x ++ r = sealP y ++ t) : x = y ∧ r = t := by
  have h1 := zFo (s := sealP x ++ r) (a := 0) (r := r) hx rfl
  have h2 := zFo (s := sealP x ++ r) (a := 0) (r := t) hy h
  rw [h1] at h2
  injection h2 with h2
  injection h2 with h3 h4
  subst h3
  exact ⟨rfl, List.append_cancel_left h⟩
theorem partAt_none {s : List UInt8} {a : Nat} (h : partAt s a = none) {x : Pt} (hx : x.Ok) (r : List UInt8) : s.drop a ≠ sealP x ++ r := fun e => by
  rw [zFo hx e] at h; cases h
structure Scan (s : List UInt8) (ps : List Pt) : Prop where
  ok : AllOk ps
  ex : ∃ rest, s = flatP ps ++ rest ∧ ∀ x, x.Ok → ∀ r, rest ≠ sealP x ++ r
theorem Scan.one : ∀ {ps qs : List Pt} {s : List UInt8}, Scan s ps → Scan s qs → ps = qs
  | [], [], _, _, _ => rfl
  | [], y :: qs, s, ⟨_, rest, h1, h2⟩, ⟨ok, rest', h3, h4⟩ => by
    exfalso
    rw [zBo, List.append_assoc] at h3
    exact h2 y ok.cons.1 _ (by rw [← h3, h1, zE0, List.nil_append])
  | x :: ps, [], s, ⟨ok, rest, h1, h2⟩, ⟨_, rest', h3, h4⟩ => by
    exfalso
    rw [zBo, List.append_assoc] at h1
    exact h4 x ok.cons.1 _ (by rw [← h1, h3, zE0, List.nil_append])
  | x :: ps, y :: qs, s, ⟨ok, rest, h1, h2⟩, ⟨ok', rest', h3, h4⟩ => by
    rw [zBo, List.append_assoc] at h1 h3
    obtain ⟨rfl, h5⟩ := seal_one ok.cons.1 ok'.cons.1 (h1.symm.trans h3)
    rw [Scan.one (s := flatP ps ++ rest) ⟨ok.cons.2, rest, rfl, h2⟩ ⟨ok'.cons.2, rest', h5, h4⟩]
theorem Scan.full {ps : List Pt} (h : AllOk ps) : Scan (flatP ps) ps := ⟨h, [], by simp, fun x _ r e => by
  have := congrArg List.length e
  rw [List.length_append] at this
  have := zB9 x
  simp at *
  omega⟩
def Corrupt (s : List UInt8) (e : Nat) : Prop := ∃ a x n, e < a ∧ partAt s a = some (x, n) ∧ e < x.p
structure Dam (D F : List UInt8) : Prop where
  len : D.length ≤ F.length
  at_ : ∀ (j : Nat) (a : UInt8), D[j]? = some a → a = 0 ∨ F[j]? = some a
theorem Dam.drop {D F : List UInt8} (h : Dam D F) (k : Nat) : Dam (D.drop k) (F.drop k) :=
  ⟨by rw [List.length_drop, List.length_drop]; have := h.len; omega, fun j a e => by
    rw [List.getElem?_drop] at e ⊢
    exact h.at_ _ a e⟩
theorem Dam.refl (F : List UInt8) : Dam F F := ⟨Nat.le_refl _, fun _ _ e => .inr e⟩
theorem Dam.head {D F r : List UInt8} {x : Pt} (h : Dam D F) (e : D = sealP x ++ r) : ∃ t, F = sealP x ++ t := by
  have hl : (sealP x).length ≤ F.length := by have := h.len; rw [e, List.length_append] at this; omega
  refine ⟨F.drop (sealP x).length, ?_⟩
  have : F.take (sealP x).length = sealP x := by
    apply List.ext_getElem?
    intro j
    rw [List.getElem?_take]
    split
    · rename_i hj
      obtain ⟨a, ha⟩ : ∃ a, (sealP x)[j]? = some a := ⟨_, List.getElem?_eq_getElem hj⟩
      have hd : D[j]? = some a := by rw [e, List.getElem?_append_left hj]; exact ha
      rcases h.at_ j a hd with h0 | h1
      · exact absurd h0 (seal_ne0 ha)
      · rw [h1, ha]
    · rw [List.getElem?_eq_none (by omega)]
  conv => lhs; rw [← List.take_append_drop (sealP x).length F, this]
theorem dam_scan : ∀ (qs : List Pt) (D : List UInt8), AllOk qs → Dam D (flatP qs) → ∃ k D', k ≤ qs.length ∧ D = flatP (qs.take k) ++ D' ∧ Dam D' (flatP (qs.drop k)) ∧ ∀ x, x.Ok → ∀ r, D' ≠ sealP x ++ r
  | [], D, _, h => by
    have h0 : D = [] := List.eq_nil_of_length_eq_zero (by have := h.len; simpa [flatP] using this)
    refine ⟨0, D, by simp, by simp [flatP], by simpa using h, fun x _ r e => ?_⟩
    rw [h0] at e
    have := congrArg List.length e
    have := zB9 x
    simp at *
    omega
  | q :: qs, D, hok, h => by
    by_cases hx : ∃ x, x.Ok ∧ ∃ r, D = sealP x ++ r
    · obtain ⟨x, hxo, r, rfl⟩ := hx
      obtain ⟨t, ht⟩ := h.head rfl
      rw [zBo] at ht
      obtain ⟨rfl, rfl⟩ := seal_one hok.cons.1 hxo ht
      have hd := h.drop (sealP q).length
      rw [List.drop_left, zBo, List.drop_left] at hd
      obtain ⟨k, D', h1, h2, h3, h4⟩ := dam_scan qs r hok.cons.2 hd
      refine ⟨k + 1, D', by simpa using h1, ?_, by simpa using h3, h4⟩
      rw [List.take_succ_cons, zBo, List.append_assoc, ← h2]
    · exact ⟨0, D, by simp, by simp [flatP], by simpa using h, fun x hxo r e => hx ⟨x, hxo, r, e⟩⟩
theorem dam_in : ∀ (qs : List Pt) (D r : List UInt8) (x : Pt) (j : Nat), AllOk qs → Dam D (flatP qs) → x.Ok → D.drop j = sealP x ++ r → x ∈ qs
  | [], D, r, x, j, _, h, _, e => by
    exfalso
    have h0 : D = [] := List.eq_nil_of_length_eq_zero (by have := h.len; simpa [flatP] using this)
    rw [h0] at e
    have := congrArg List.length e
    have := zB9 x
    simp at *
    omega
  | q :: qs, D, r, x, j, hok, h, hx, e => by
    by_cases hj0 : j = 0
    · subst hj0
      rw [List.drop_zero] at e
      obtain ⟨t, ht⟩ := h.head e
      rw [zBo] at ht
      rw [(seal_one hok.cons.1 hx ht).1]
      exact List.mem_cons_self
    by_cases hjl : j < (sealP q).length
    · exfalso
      have h1 : D[j]? = some 1 := by
        have := congrArg (·[0]?) e
        simp only [List.getElem?_drop, Nat.add_zero] at this
        rw [this, List.getElem?_append_left (zB9 x), seal_zero]
      rcases h.at_ j 1 h1 with h2 | h2
      · exact absurd h2 (by decide)
      · rw [zBo, List.getElem?_append_left hjl] at h2
        rcases seal_at h2 with ⟨h3, _⟩ | ⟨_, h3⟩
        · exact hj0 h3
        · exact absurd h3 (by decide)
    · have hd := h.drop (sealP q).length
      rw [zBo, List.drop_left] at hd
      refine List.mem_cons_of_mem _ (dam_in qs (D.drop (sealP q).length) r x (j - (sealP q).length) hok.cons.2 hd hx ?_)
      rw [List.drop_drop, show (sealP q).length + (j - (sealP q).length) = j by omega]
      exact e
theorem crash_scan {ps qs : List Pt} {D : List UInt8} (hp : AllOk ps) (hq : AllOk qs) (h : Dam D (flatP qs)) : ∃ k, k ≤ qs.length ∧ Scan (flatP ps ++ D) (ps ++ qs.take k) ∧ ((∀ x ∈ qs, x.p ≤ (flatP ps).length) → ¬ Corrupt (flatP ps ++ D) (flatP (ps ++ qs.take k)).length) := by
  obtain ⟨k, D', h1, h2, h3, h4⟩ := dam_scan qs D hq h
  have he : flatP ps ++ D = flatP (ps ++ qs.take k) ++ D' := by rw [zBq, List.append_assoc, ← h2]
  refine ⟨k, h1, ⟨hp.app (hq.take k), D', he, h4⟩, ?_⟩
  rintro hpl ⟨a, x, n, ha, hat, hxp⟩
  obtain ⟨hx, _, r, hr⟩ := zGk hat
  rw [he] at hr
  have hlt : (flatP (ps ++ qs.take k)).length ≤ a := by omega
  have hdr : (flatP (ps ++ qs.take k) ++ D').drop a = D'.drop (a - (flatP (ps ++ qs.take k)).length) := by
    rw [List.drop_append, List.drop_eq_nil_of_le hlt, List.nil_append]
  rw [hdr] at hr
  have hin := dam_in _ D' r x _ (hq.drop k) h3 hx hr
  have := hpl x (List.mem_of_mem_drop hin)
  rw [zBq, List.length_append] at hxp
  omega
end Go.Proofs.Ytblikpbaeippaaa


namespace Go.Proofs.Ytblikpbaeippaaa
set_option linter.unusedVariables false
set_option linter.unusedSimpArgs false
open Go.RowKit Px Wr
def ordL (g : Nat) : Bool → List Pt → Bool
  | e, [] => e
  | e, x :: l => if x.g ≠ g ∨ x.k = 1 ∨ (x.k = 3 ∧ e = true) ∨ (x.k = 4 ∧ e = false) then false else ordL g (e || decide (x.k = 3)) l
def ordB : List Pt → Bool
  | [] => false
  | b :: l => decide (b.k = 1) && ordL b.g false l
def genP : List Pt → Nat
  | [] => 0
  | b :: _ => if b.k = 1 then b.g else 0
def recsP (ps : List Pt) : List (List UInt8) := (ps.filter fun x => decide (x.k = 2)).map (·.t)
theorem zBp (a b : List Pt) : recsP (a ++ b) = recsP a ++ recsP b := by simp [recsP]
def recP (g p : Nat) (l : List (List UInt8)) : List Pt := l.map fun t => ⟨2, g, p, t⟩
theorem zEe (g p : Nat) (l : List (List UInt8)) : recsP (recP g p l) = l := by
  induction l with
  | nil => rfl
  | cons t l ih => simp only [recP, List.map_cons] at *; simp only [recsP, List.filter_cons, decide_true, if_true, List.map_cons] at *; rw [ih]
theorem recP_take (g p : Nat) (l : List (List UInt8)) (k : Nat) : (recP g p l).take k = recP g p (l.take k) := by simp [recP, List.map_take]
theorem zB7 (g p : Nat) (l : List (List UInt8)) : (recP g p l).length = l.length := by simp [recP]
theorem zCc {g p : Nat} {l : List (List UInt8)} (h0 : 1 ≤ g) (h1 : g ≤ 1099511627776) (hp : p ≤ 1099511627776) (hl : ∀ t ∈ l, t.length ≤ 4096) : AllOk (recP g p l) := fun x hx => by
  obtain ⟨t, ht, rfl⟩ := List.mem_map.1 hx
  exact ⟨by simp, by simp, h0, h1, hp, hl t ht, fun h => absurd rfl h⟩
theorem zBh {g p : Nat} (h0 : 1 ≤ g) (h1 : g ≤ 1099511627776) (hp : p ≤ 1099511627776) (k : Nat) (hk : k = 1 ∨ k = 3 ∨ k = 4) : Pt.Ok ⟨k, g, p, []⟩ :=
  ⟨by simp only; omega, by simp only; omega, h0, h1, hp, by simp, fun _ => rfl⟩
def Tl (g : Nat) (l : List Pt) : Prop := ∀ x ∈ l, x.g = g ∧ (x.k = 2 ∨ x.k = 4)
theorem Tl.app {g : Nat} {a b : List Pt} (ha : Tl g a) (hb : Tl g b) : Tl g (a ++ b) := fun x hx => (List.mem_append.1 hx).elim (ha x) (hb x)
theorem Tl.take {g : Nat} {a : List Pt} (ha : Tl g a) (k : Nat) : Tl g (a.take k) := fun x hx => ha x (List.mem_of_mem_take hx)
theorem Tl.recP (g p : Nat) (l : List (List UInt8)) : Tl g (recP g p l) := fun x hx => by
  obtain ⟨t, _, rfl⟩ := List.mem_map.1 hx
  exact ⟨rfl, .inl rfl⟩
theorem Tl.mark (g p : Nat) : Tl g [⟨4, g, p, []⟩] := fun x hx => by
  obtain rfl := List.mem_singleton.1 hx
  exact ⟨rfl, .inr rfl⟩
theorem ordL_tl {g : Nat} : ∀ {l : List Pt}, Tl g l → ordL g true l = true
  | [], _ => rfl
  | x :: l, h => by
    obtain ⟨h1, h2⟩ := h x List.mem_cons_self
    rw [ordL, if_neg (by rintro (q | q | q | q) <;> first | exact q h1 | (rcases h2 with h2 | h2 <;> omega) | (have := q.2; simp at this)), Bool.true_or]
    exact ordL_tl fun y hy => h y (List.mem_cons_of_mem _ hy)
theorem ordL_app {g : Nat} {t : List Pt} (ht : Tl g t) : ∀ {l : List Pt} {e : Bool}, ordL g e l = true → ordL g e (l ++ t) = true
  | [], e, h => by
    have : e = true := h
    subst this
    exact ordL_tl ht
  | x :: l, e, h => by
    rw [List.cons_append, ordL]
    rw [ordL] at h
    split at h
    · cases h
    · rename_i hc
      rw [if_neg hc]
      exact ordL_app ht h
theorem zEk {ps t : List Pt} (h : ordB ps = true) (ht : Tl (genP ps) t) : ordB (ps ++ t) = true := by
  cases ps with
  | nil => cases h
  | cons b l =>
    simp only [ordB, Bool.and_eq_true, decide_eq_true_eq] at h
    have hg : genP (b :: l) = b.g := by simp [genP, h.1]
    rw [hg] at ht
    simp only [List.cons_append, ordB, Bool.and_eq_true, decide_eq_true_eq]
    exact ⟨h.1, ordL_app ht h.2⟩
theorem zEj {ps t : List Pt} (h : ordB ps = true) : genP (ps ++ t) = genP ps := by
  cases ps with
  | nil => cases h
  | cons b l => rfl
theorem zFj {g p : Nat} : ∀ (l : List (List UInt8)) (r : List Pt), ordL g false (recP g p l ++ r) = ordL g false r
  | [], r => rfl
  | t :: l, r => by
    show ordL g false (⟨2, g, p, t⟩ :: (recP g p l ++ r)) = _
    rw [ordL, if_neg (by simp)]
    exact zFj l r
def begP (g p : Nat) (l : List (List UInt8)) : List Pt := ⟨1, g, 0, []⟩ :: (recP g p l ++ [⟨3, g, 0, []⟩])
theorem zEr (g p : Nat) (l : List (List UInt8)) : (begP g p l).length = l.length + 2 := by simp [begP, zB7]
theorem begP_ok {g p : Nat} {l : List (List UInt8)} (h0 : 1 ≤ g) (h1 : g ≤ 1099511627776) (hp : p ≤ 1099511627776) (hl : ∀ t ∈ l, t.length ≤ 4096) : AllOk (begP g p l) := fun x hx => by
  rcases List.mem_cons.1 hx with rfl | hx
  · exact zBh h0 h1 (by omega) 1 (.inl rfl)
  · rcases List.mem_append.1 hx with hx | hx
    · exact zCc h0 h1 hp hl x hx
    · obtain rfl := List.mem_singleton.1 hx
      exact zBh h0 h1 (by omega) 3 (.inr (.inl rfl))
theorem ordB_beg (g p : Nat) (l : List (List UInt8)) {t : List Pt} (ht : Tl g t) : ordB (begP g p l ++ t) = true := by
  show ordB (⟨1, g, 0, []⟩ :: ((recP g p l ++ [⟨3, g, 0, []⟩]) ++ t)) = true
  simp only [ordB, decide_true, Bool.true_and]
  rw [List.append_assoc, zFj]
  show ordL g false (⟨3, g, 0, []⟩ :: t) = true
  rw [ordL, if_neg (by simp)]
  exact ordL_tl ht
theorem ordB_short (g p : Nat) (l : List (List UInt8)) (t : List Pt) (k : Nat) (hk : k ≤ l.length + 1) : ordB ((begP g p l ++ t).take k) = false := by
  cases k with
  | zero => rfl
  | succ k =>
    have h1 : (begP g p l ++ t).take (k + 1) = ⟨1, g, 0, []⟩ :: ((recP g p l ++ ([(⟨3, g, 0, []⟩ : Pt)] ++ t)).take k) := by
      simp [begP]
    rw [h1, List.take_append_of_le_length (by rw [zB7]; omega), recP_take]
    simp only [ordB, decide_true, Bool.true_and]
    have := zFj (g := g) (p := p) (l.take k) []
    rw [List.append_nil] at this
    rw [this]
    rfl
theorem zEz (g p : Nat) (l : List (List UInt8)) : recsP (begP g p l) = l := by
  show recsP ([⟨1, g, 0, []⟩] ++ (recP g p l ++ [⟨3, g, 0, []⟩])) = l
  rw [zBp, zBp, zEe]
  simp [recsP]
theorem genP_beg (g p : Nat) (l : List (List UInt8)) (t : List Pt) : genP (begP g p l ++ t) = g := by simp [begP, genP]
end Go.Proofs.Ytblikpbaeippaaa


namespace Go.Proofs.Ytblikpbaeippaaa
set_option linter.unusedVariables false
set_option linter.unusedSimpArgs false
open Go.RowKit Px Go.Extern.Stop Go.Stop Go.Extern
theorem noIs (b : Nat) (xT : TypeId) {K : Value → Prop} : Yld Try.prog (Instr.typeAssert (errV b) xT 113 true) K = K (.tuple #[.nilIface, .bool false]) := zAc fun w => run_typeAssert_lacksB Try.underlying113 (by kernel_rfl) (by kernel_rfl) _ xT w
theorem hasUnwrap (b : Nat) (xT : TypeId) {K : Value → Prop} : Yld Try.prog (Instr.typeAssert (errV b) xT 116 true) K = K (.tuple #[errV b, .bool true]) := zAc fun w => run_typeAssert_hasB Try.underlying116 (by kernel_rfl) _ xT w
theorem noIsC (k : Int) (xT : TypeId) {K : Value → Prop} : Yld Try.prog (Instr.typeAssert (codeV k) xT 113 true) K = K (.tuple #[.nilIface, .bool false]) := zAc fun w => run_typeAssert_lacksB Try.underlying113 (by kernel_rfl) (by kernel_rfl) _ xT w
theorem noUnwrapC (k : Int) (xT : TypeId) {K : Value → Prop} : Yld Try.prog (Instr.typeAssert (codeV k) xT 116 true) K = K (.tuple #[.nilIface, .bool false]) := zAc fun w => run_typeAssert_lacksB Try.underlying116 (by kernel_rfl) (by kernel_rfl) _ xT w
theorem noUnwrapsC (k : Int) (xT : TypeId) {K : Value → Prop} : Yld Try.prog (Instr.typeAssert (codeV k) xT 117 true) K = K (.tuple #[.nilIface, .bool false]) := zAc fun w => run_typeAssert_lacksB Try.underlying117 (by kernel_rfl) (by kernel_rfl) _ xT w
theorem comp_code : (Try.prog.info? 44).map (·.comparable) = some true := by kernel_rfl
theorem zI7 (w : World) (d : Nat) {P : Program} {ti tn : TypeId} {ms : Array (String × TypeId)} {i : TypeInfo} {k : IntKind} (a b : Int)
    (hi : P.underlying ti = some (.interface ms)) (hn : P.underlying tn = some (.int k)) (hinfo : P.info? tn = some i) (hcomp : i.comparable = true) :
    (Op.equalIn (d + 2) ti (.iface tn (.int k a)) (.iface tn (.int k b))).run P w = .ok (a == b) w := by
  simp [Op.equalIn, run_underlying hi, run_underlying hn, typeInfo, hinfo, hcomp]
theorem zI9 (w : World) (d : Nat) {P : Program} {ti tx ty : TypeId} {ms : Array (String × TypeId)} (x y : Value) (hi : P.underlying ti = some (.interface ms)) (hne : tx ≠ ty) :
    (Op.equalIn (d + 2) ti (.iface tx x) (.iface ty y)).run P w = .ok false w := by
  simp [Op.equalIn, run_underlying hi, hne]
theorem eql_code (a b : Int) (w : World) : (binOp .eql 36 (codeV a) (codeV b)).run Try.prog w = .ok (.bool (a == b)) w := by
  obtain ⟨i, hi, hcmp⟩ := Option.map_eq_some_iff.1 comp_code
  unfold codeV
  simp only [binOp]
  simp [Op.equal, Op.maxDepth, zI7 w 9998 a b Try.underlying36 Try.underlying44 hi hcmp]
theorem eql_other (v : Value) (b : Int) (w : World) : (binOp .eql 36 (.iface 94 v) (codeV b)).run Try.prog w = .ok (.bool false) w := by
  unfold codeV
  simp only [binOp]
  simp [Op.equal, Op.maxDepth, zI9 w 9998 v (.int .i64 b) Try.underlying36 (show 94 ≠ 44 by decide)]
theorem y_eqlCC (x y : Tmp) (a b : Int) {K : Value → Prop} : Yld Try.prog (binS .eql 36 (.tmp x) (.tmp y) (codeV a) (codeV b)) K = K (.bool (a == b)) := zAc fun w => by
  have := eql_code a b w
  unfold binS eqGuard codeV at *
  simp [this]
theorem y_eqlEC (x y : Tmp) (b : Nat) (c : Int) {K : Value → Prop} : Yld Try.prog (binS .eql 36 (.tmp x) (.tmp y) (errV b) (codeV c)) K = K (.bool false) := zAc fun w => by
  have := eql_other (.pointer (some ⟨b, 0, none⟩)) c w
  unfold binS eqGuard errV codeV at *
  simp [this]
theorem unwrap_method (p : Value) (w : World) : (callMethod (.iface 94 p) "Unwrap" #[]).run Try.prog w = (callFunc 101 [p].toArray).run Try.prog w := by kernel_rfl
set_option maxRecDepth 20000 in
theorem unwrap_any (b : Nat) (s : List UInt8) (a : Int) (u : Value) (w0 : World) (h : PH) (hb : h.m b = some ⟨[str s, .int .i64 a, u], 3⟩) : PCalls Try.prog w0 101 [.pointer (some ⟨b, 0, none⟩)] h fun r h' => r = u ∧ h' = h := by
  refine zAp Try.func101 (by kernel_rfl) rfl _ Try.ntmps101 (by kernel_rfl) (by kernel_rfl) _ Try.results101 ?_
  simp -dsimp -implicitDefEqProofs (disch := first | omega | assumption | (simp only [Option.isSome_some,Qt0]; done) | (simp only [List.length_cons,List.length_nil,List.length_append,Int.toNat_natCast] <;> omega) | fail) only [Nat.reduceLT,Nat.reduceLeDiff,Nat.reduceEqDiff,↓reduceIte,Int.reduceLT,Int.reduceLE,Int.reduceToNat,Int.reduceEq,Int.reduceNe,Nat.reduceAdd,Int.reduceAdd,Int.reduceSub,Int.reduceMul,Nat.reduceMul,Qp0,Qp1,Ql0,Qe0,zAa,zAb,hb]
  exact ⟨_, PH.Le.refl _, by trivial, rfl⟩
set_option maxRecDepth 20000 in
theorem is_any' (c : Int) (w0 : World) (h : PH) (e0 : Er) (v0 : Value) (hv0 : EV h e0 v0) : PCalls Try.prog w0 41 [v0, codeV c, .bool true] h fun r h' => r = .bool (e0.num == c) ∧ h' = h := by
  refine zAp Try.func41 (by kernel_rfl) rfl _ Try.ntmps41 (by kernel_rfl) (by kernel_rfl) _ Try.results41 ?_
  simp -dsimp -implicitDefEqProofs (disch := first | omega | assumption | (simp only [Option.isSome_some,Qt0]; done) | (simp only [List.length_cons,List.length_nil,List.length_append,Int.toNat_natCast] <;> omega) | fail) only [Nat.reduceLT,Nat.reduceLeDiff,Nat.reduceEqDiff,↓reduceIte,Int.reduceLT,Int.reduceLE,Int.reduceToNat,Int.reduceEq,Int.reduceNe,Nat.reduceAdd,Int.reduceAdd,Int.reduceSub,Int.reduceMul,Nat.reduceMul,Qp0,Qp1,Ql0,Qe0]
  refine zBs (fun n f h' => ∃ (e : Er) (v : Value), e.deep = n ∧ e.num = e0.num ∧ EV h e v ∧ f 0 = some v ∧ f 1 = some (codeV c) ∧ f 2 = some (.bool true) ∧ h' = h) (by kernel_rfl) e0.deep ⟨e0, v0, rfl, rfl, hv0, ?_, ?_, ?_, rfl⟩ ?_
  · simp -dsimp -implicitDefEqProofs (disch := first | omega | assumption | (simp only [Option.isSome_some,Qt0]; done) | (simp only [List.length_cons,List.length_nil,List.length_append,Int.toNat_natCast] <;> omega) | fail) only [Nat.reduceLT,Nat.reduceLeDiff,Nat.reduceEqDiff,↓reduceIte,Int.reduceLT,Int.reduceLE,Int.reduceToNat,Int.reduceEq,Int.reduceNe,Nat.reduceAdd,Int.reduceAdd,Int.reduceSub,Int.reduceMul,Nat.reduceMul,Qp0,Qp1,Ql0,Qe0]
  · simp -dsimp -implicitDefEqProofs (disch := first | omega | assumption | (simp only [Option.isSome_some,Qt0]; done) | (simp only [List.length_cons,List.length_nil,List.length_append,Int.toNat_natCast] <;> omega) | fail) only [Nat.reduceLT,Nat.reduceLeDiff,Nat.reduceEqDiff,↓reduceIte,Int.reduceLT,Int.reduceLE,Int.reduceToNat,Int.reduceEq,Int.reduceNe,Nat.reduceAdd,Int.reduceAdd,Int.reduceSub,Int.reduceMul,Nat.reduceMul,Qp0,Qp1,Ql0,Qe0]
  · simp -dsimp -implicitDefEqProofs (disch := first | omega | assumption | (simp only [Option.isSome_some,Qt0]; done) | (simp only [List.length_cons,List.length_nil,List.length_append,Int.toNat_natCast] <;> omega) | fail) only [Nat.reduceLT,Nat.reduceLeDiff,Nat.reduceEqDiff,↓reduceIte,Int.reduceLT,Int.reduceLE,Int.reduceToNat,Int.reduceEq,Int.reduceNe,Nat.reduceAdd,Int.reduceAdd,Int.reduceSub,Int.reduceMul,Nat.reduceMul,Qp0,Qp1,Ql0,Qe0]
  rintro n f h' ⟨e, v, rfl, hn, hv, f0, f1, f2, rfl⟩
  rw [← hn]
  cases e with
  | code k =>
    obtain rfl : v = codeV k := hv
    have hnum : (Er.code k).num = k := rfl
    rw [hnum]
    cases hkc : (k == c)
    · simp -dsimp -implicitDefEqProofs (disch := first | omega | assumption | (simp only [Option.isSome_some,Qt0]; done) | (simp only [List.length_cons,List.length_nil,List.length_append,Int.toNat_natCast] <;> omega) | fail) only [Nat.reduceLT,Nat.reduceLeDiff,Nat.reduceEqDiff,↓reduceIte,Int.reduceLT,Int.reduceLE,Int.reduceToNat,Int.reduceEq,Int.reduceNe,Nat.reduceAdd,Int.reduceAdd,Int.reduceSub,Int.reduceMul,Nat.reduceMul,Qp0,Qp1,Ql0,Qe0,f0,f1,f2,y_eqlCC,hkc,noIsC,noUnwrapC,noUnwrapsC]
      exact ⟨_, PH.Le.refl _, by trivial, rfl⟩
    · simp -dsimp -implicitDefEqProofs (disch := first | omega | assumption | (simp only [Option.isSome_some,Qt0]; done) | (simp only [List.length_cons,List.length_nil,List.length_append,Int.toNat_natCast] <;> omega) | fail) only [Nat.reduceLT,Nat.reduceLeDiff,Nat.reduceEqDiff,↓reduceIte,Int.reduceLT,Int.reduceLE,Int.reduceToNat,Int.reduceEq,Int.reduceNe,Nat.reduceAdd,Int.reduceAdd,Int.reduceSub,Int.reduceMul,Nat.reduceMul,Qp0,Qp1,Ql0,Qe0,f0,f1,f2,y_eqlCC,hkc]
      exact ⟨_, PH.Le.refl _, by trivial, rfl⟩
  | wrap s a e =>
    obtain ⟨b, u, rfl, hb, hu⟩ := hv
    have hun := Lib.hid (@unwrap_any b s a u w0 h' hb)
    obtain ⟨t, x, rfl⟩ := hu.held
    simp -dsimp -implicitDefEqProofs (disch := first | omega | assumption | (simp only [Option.isSome_some,Qt0]; done) | (simp only [List.length_cons,List.length_nil,List.length_append,Int.toNat_natCast] <;> omega) | fail) only [Nat.reduceLT,Nat.reduceLeDiff,Nat.reduceEqDiff,↓reduceIte,Int.reduceLT,Int.reduceLE,Int.reduceToNat,Int.reduceEq,Int.reduceNe,Nat.reduceAdd,Int.reduceAdd,Int.reduceSub,Int.reduceMul,Nat.reduceMul,Qp0,Qp1,Ql0,Qe0,f0,f1,f2,y_eqlEC,noIs,hasUnwrap]
    refine ⟨_, _, unwrap_method _, hun.out.mono ?_⟩
    rintro v hz ⟨rfl, rfl⟩
    simp -dsimp -implicitDefEqProofs (disch := first | omega | assumption | (simp only [Option.isSome_some,Qt0]; done) | (simp only [List.length_cons,List.length_nil,List.length_append,Int.toNat_natCast] <;> omega) | fail) only [Nat.reduceLT,Nat.reduceLeDiff,Nat.reduceEqDiff,↓reduceIte,Int.reduceLT,Int.reduceLE,Int.reduceToNat,Int.reduceEq,Int.reduceNe,Nat.reduceAdd,Int.reduceAdd,Int.reduceSub,Int.reduceMul,Nat.reduceMul,Qp0,Qp1,Ql0,Qe0,f0,f1,f2]
    exact ⟨e.deep, _, Nat.lt_succ_self _, PH.Le.refl _, e, _, rfl, rfl, hu, rfl, by trivial, by trivial, rfl⟩
set_option maxRecDepth 20000 in
theorem typeOf_code (k : Int) (w : World) : (ReflectliteType.typeOf #[codeV k]).run Try.prog w = .ok (.iface 111 (.agg #[.pointer (some ⟨1, 44, none⟩)])) w := by kernel_rfl
theorem comp_run (w : World) : ((ReflectliteType.method fun t => do Rtype.noPackHeld "Comparable" t; (fun a => Value.bool a.comparable) <$> typeInfo t) #[.agg #[.pointer (some ⟨1, 44, none⟩)]]).run Try.prog w = .ok (.bool true) w := by kernel_rfl
theorem typeof_any (k : Int) (w0 : World) (h : PH) : PCalls Try.prog w0 40 [codeV k] h fun r h' => r = .iface 111 (.agg #[.pointer (some ⟨1, 44, none⟩)]) ∧ h' = h := by
  refine zEw _ (fun w => ?_) ⟨rfl, rfl⟩
  rw [@run_callFunc_extern Try.prog 40 _ ReflectliteType.typeOf Try.func40 (by kernel_rfl) (by kernel_rfl) (by kernel_rfl) (by kernel_rfl), typeOf_code]
  rfl
theorem comp_any (w0 : World) (h : PH) : PCalls Try.prog w0 107 [.agg #[.pointer (some ⟨1, 44, none⟩)]] h fun r h' => r = .bool true ∧ h' = h := by
  refine zEw _ (fun w => ?_) ⟨rfl, rfl⟩
  rw [@run_callFunc_extern Try.prog 107 _ (ReflectliteType.method fun t => do Rtype.noPackHeld "Comparable" t; pure (.bool (← typeInfo t).comparable)) Try.func107 (by kernel_rfl) (by kernel_rfl) (by kernel_rfl) (by kernel_rfl)]
  have := comp_run w
  simp only [bind_pure_comp] at this ⊢
  rw [this]
  rfl
theorem comp_method (w : World) : (callMethod (.iface 111 (.agg #[.pointer (some ⟨1, 44, none⟩)])) "Comparable" #[]).run Try.prog w = (callFunc 107 [.agg #[.pointer (some ⟨1, 44, none⟩)]].toArray).run Try.prog w := by kernel_rfl
theorem is_any (c : Int) (w0 : World) (h : PH) (e0 : Er) (v0 : Value) (hv0 : EV h e0 v0) : PCalls Try.prog w0 14 [v0, codeV c] h fun r h' => r = .bool (e0.num == c) ∧ h' = h := by
  refine zAp Try.func14 (by kernel_rfl) rfl _ Try.ntmps14 (by kernel_rfl) (by kernel_rfl) _ Try.results14 ?_
  have hI := Lib.hid (@is_any' c w0 h e0 v0 hv0)
  obtain ⟨t, x, rfl⟩ := hv0.held
  unfold codeV
  simp -dsimp -implicitDefEqProofs (disch := first | omega | assumption | (simp only [Option.isSome_some,Qt0]; done) | (simp only [List.length_cons,List.length_nil,List.length_append,Int.toNat_natCast] <;> omega) | fail) only [Nat.reduceLT,Nat.reduceLeDiff,Nat.reduceEqDiff,↓reduceIte,Int.reduceLT,Int.reduceLE,Int.reduceToNat,Int.reduceEq,Int.reduceNe,Nat.reduceAdd,Int.reduceAdd,Int.reduceSub,Int.reduceMul,Nat.reduceMul,Qp0,Qp1,Ql0,Qe0]
  refine (typeof_any c w0 h).mono ?_
  rintro v hz hv
  obtain ⟨rfl, rfl⟩ := hv
  simp -dsimp -implicitDefEqProofs (disch := first | omega | assumption | (simp only [Option.isSome_some,Qt0]; done) | (simp only [List.length_cons,List.length_nil,List.length_append,Int.toNat_natCast] <;> omega) | fail) only [Nat.reduceLT,Nat.reduceLeDiff,Nat.reduceEqDiff,↓reduceIte,Int.reduceLT,Int.reduceLE,Int.reduceToNat,Int.reduceEq,Int.reduceNe,Nat.reduceAdd,Int.reduceAdd,Int.reduceSub,Int.reduceMul,Nat.reduceMul,Qp0,Qp1,Ql0,Qe0]
  refine ⟨_, _, comp_method, (comp_any w0 _).mono ?_⟩
  rintro v hy hv
  obtain ⟨rfl, rfl⟩ := hv
  simp -dsimp -implicitDefEqProofs (disch := first | omega | assumption | (simp only [Option.isSome_some,Qt0]; done) | (simp only [List.length_cons,List.length_nil,List.length_append,Int.toNat_natCast] <;> omega) | fail) only [Nat.reduceLT,Nat.reduceLeDiff,Nat.reduceEqDiff,↓reduceIte,Int.reduceLT,Int.reduceLE,Int.reduceToNat,Int.reduceEq,Int.reduceNe,Nat.reduceAdd,Int.reduceAdd,Int.reduceSub,Int.reduceMul,Nat.reduceMul,Qp0,Qp1,Ql0,Qe0]
  refine hI.out.mono ?_
  rintro v hx ⟨rfl, rfl⟩
  simp -dsimp -implicitDefEqProofs (disch := first | omega | assumption | (simp only [Option.isSome_some,Qt0]; done) | (simp only [List.length_cons,List.length_nil,List.length_append,Int.toNat_natCast] <;> omega) | fail) only [Nat.reduceLT,Nat.reduceLeDiff,Nat.reduceEqDiff,↓reduceIte,Int.reduceLT,Int.reduceLE,Int.reduceToNat,Int.reduceEq,Int.reduceNe,Nat.reduceAdd,Int.reduceAdd,Int.reduceSub,Int.reduceMul,Nat.reduceMul,Qp0,Qp1,Ql0,Qe0]
  exact ⟨_, PH.Le.refl _, by trivial, rfl⟩
end Go.Proofs.Ytblikpbaeippaaa


namespace Go.Proofs.Ytblikpbaeippaaa
set_option linter.unusedVariables false
set_option linter.unusedSimpArgs false
open Go.RowKit Px
def Ro (h : PH) (A : Option Addr) (l : List UInt8) (c : Nat) : Prop :=
  (A = none ∧ l = [] ∧ c = 0) ∨ ∃ b X lim, A = some ⟨b, 0, none⟩ ∧ l.length ≤ c ∧ c ≤ maxLen ∧ h.m b = some ⟨X, lim⟩ ∧ l.length ≤ X.length ∧ X.take l.length = bs l ∧ c ≤ lim
theorem Ro.rs {w0 : World} {h : PH} {A : Option Addr} {l : List UInt8} {c : Nat} (r : Ro h A l c) : Rs w0 h 1 A l.length (bs l) := by
  rcases r with ⟨rfl, rfl, rfl⟩ | ⟨b, X, lim, rfl, h1, h2, h3, h4, h5, h6⟩
  · exact Rs.nil w0 h 1 none
  · refine ⟨by rw [zA0, Nat.mul_one], fun _ => ⟨_, rfl, ?_⟩⟩
    unfold rdN
    simp only [h3]
    rw [if_pos ⟨trivial, by omega⟩, Nat.mul_one, List.drop_zero, h5]
theorem Ro.len {h : PH} {A : Option Addr} {l : List UInt8} {c : Nat} (r : Ro h A l c) : l.length ≤ c := by
  rcases r with ⟨rfl, rfl, rfl⟩ | ⟨b, X, lim, rfl, h1, _⟩
  · simp
  · exact h1
theorem Ro.same {h h' : PH} {A : Option Addr} {l : List UInt8} {c : Nat} (r : Ro h A l c) (hs : ∀ a, A = some a → h'.m a.block = h.m a.block) : Ro h' A l c := by
  rcases r with h1 | ⟨b, X, lim, rfl, h1, h2, h3, h4, h5, h6⟩
  · exact .inl h1
  · exact .inr ⟨b, X, lim, rfl, h1, h2, by rw [hs _ rfl]; exact h3, h4, h5, h6⟩
theorem Does_appR {w0 : World} {h : PH} {A : Option Addr} {l s : List UInt8} {c : Nat} {ty : TypeId} {K : Value → PH → Prop} (r : Ro h A l c) (hsz : l.length + s.length ≤ 1000000000)
    (hk : ∀ A' c' h', Ro h' A' (l ++ s) c' → h.top ≤ h'.top → (∀ x, x < h.top → (∀ a, A = some a → a.block ≠ x) → h'.m x = h.m x) → (∀ a, A' = some a → A = some a ∨ h.top ≤ a.block) → K (.slice A' (l ++ s).length c') h') :
    Does Try.prog w0 h (Builtin.append_ #[77, 9] ty #[.slice A l.length c, str s]) K := by
  have hll : (l ++ s).length = l.length + s.length := List.length_append
  rcases Nat.eq_zero_or_pos s.length with h0 | h0
  · have hs0 : s = [] := List.eq_nil_of_length_eq_zero h0
    subst hs0
    refine zHa zA8 Try.underlying9 r.len ?_
    have := hk A c h (by simpa using r) (Nat.le_refl _) (fun _ _ _ => rfl) (fun a e => .inl e)
    simpa using this
  rcases r with ⟨rfl, rfl, rfl⟩ | ⟨b, X, lim, rfl, h1, h2, h3, h4, h5, h6⟩
  · intro w sm
    obtain ⟨i, hi, hz, hsi, hby⟩ := zA8.info
    obtain ⟨v', w', hr, ho', hg, hn⟩ := Lib.run_append_own_string (P := Try.prog) w w.heap.size 77 9 ty 5 i zA8.under Try.underlying9 hi hz hsi hby (.slice none 0 0) 0 [] (World.ownsRow_nil _ _ _ _) ⟨s.toArray⟩ (by rw [zA9]; unfold maxLen; simp at hsz; omega) (by rw [zA9]; simp at hsz; omega) (Nat.le_refl _)
    rw [zA9, zC1] at ho'
    obtain ⟨b', c', rfl, g1, g2, g3, g4⟩ := Own.ofRow ho' (by omega)
    simp only [Nat.zero_add, List.nil_append, Nat.mul_one] at g1 g4
    refine ⟨_, w', h.new b' ⟨bs s, c'⟩, hr, ?_, (sm.step (row := none) hg (fun _ e => by cases e)).put (Nat.le_trans sm.base g3) g4⟩
    have ht := Nat.le_trans sm.top g3
    have := hk (some ⟨b', 0, none⟩) c' (h.new b' ⟨bs s, c'⟩) (.inr ⟨b', bs s, c', rfl, by simpa using g1, g2, by rw [PH.new_m, if_pos rfl], by simp [zA0], by show List.take s.length (bs s) = bs s; rw [List.take_of_length_le (by rw [zA0]; omega)], Nat.le_refl _⟩) (by simp only [PH.new_top]; omega) (fun x hx _ => by rw [PH.new_m, if_neg (by omega)]) (fun a e => by cases e; exact .inr ht)
    simpa using this
  · by_cases hroom : l.length + s.length ≤ c
    · intro w sm
      obtain ⟨i, hi, hz, hsi, hby⟩ := zA8.info
      obtain ⟨q1, cur, ct, lo, hi', q2, q3, q4, q5, q6⟩ := sm.sat b _ h3
      simp only at q3 q4 q5 q6
      have hbl := zA0 s
      have hf := Lib.run_firstCells_string (P := Try.prog) w 1 ⟨s.toArray⟩
      rw [zC1, zA9] at hf
      have hst := run_storeCells_cells (P := Try.prog) b l.length (bs s) 0 w (fun j hj => by
          rw [cell_of_row w b _ cur ct _ q2, Array.getElem?_eq_getElem (by omega)]; rfl) (fun j hj => by
          simp [World.frozen?, q2]; omega) (by
        intro v hv
        obtain ⟨x, _, rfl⟩ := List.mem_map.1 hv
        rfl)
      have hrun : (Builtin.append_ #[77, 9] ty #[.slice (some ⟨b, 0, none⟩) l.length c, str s]).run Try.prog w = .ok (.slice (some ⟨b, 0, none⟩) (l.length + s.length) c) (w.setCells b (l.length + 0) (bs s)) := by
        unfold str
        simp [Builtin.append_, run_underlying zA8.under, run_underlying Try.underlying9, sizeOf, typeInfo, hi, hsi, Builtin.lenOf, zA9, hroom, hf, Addr.add_mid, hst]
      rw [Nat.add_zero] at hrun
      have hh := zEl (w := w) (b := b) (t := ct) (fz := (lo, hi')) (cs := cur.toList) (bs s) l.length (by simpa using q2) (by simp; omega)
      have hblt := h.lt _ _ h3
      have hK := hk (some ⟨b, 0, none⟩) c ((h.del b).new b ⟨bs (l ++ s), lim⟩) (.inr ⟨b, bs (l ++ s), lim, rfl, by omega, h2, by rw [PH.new_m, if_pos rfl], by rw [zA0]; omega, by rw [List.take_of_length_le (by rw [zA0]; omega)], h6⟩) (by simp only [PH.new_top, PH.del_top]; omega) (fun x hx hne => by rw [PH.new_m, if_neg (fun e => hne _ rfl e.symm), PH.del_m, if_neg (fun e => hne _ rfl e.symm)]) (fun a e => .inl e)
      rw [hll] at hK
      refine ⟨_, _, (h.del b).new b ⟨bs (l ++ s), lim⟩, hrun, hK, ?_⟩
      refine ((sm.del b).step (row := some b) (zEv b (bs s) l.length w) (fun x e => ?_)).put q1 ⟨_, ct, lo, hi', by simpa using hh, ?_, q4, ?_, ?_⟩
      · injection e with e; subst e; exact ⟨q1, by simp [PH.del_m]⟩
      · simp; omega
      · simp only [zA0]; omega
      · simp only
        have hcl : l.length ≤ cur.toList.length := by simp; omega
        have e1 : cur.toList.take l.length = bs l := by
          rw [← h5, ← q6, List.take_take, Nat.min_eq_left h4]
        have e2 := List.take_left (l₁ := cur.toList.take l.length ++ bs s) (l₂ := cur.toList.drop (l.length + (bs s).length))
        rw [e1, ← zBi] at e2
        rw [List.toList_toArray, e1]
        simpa [List.append_assoc, zBi] using e2
    · refine zFk zA8 Try.underlying9 (xs := bs l) ?_ (by omega) hsz fun b' c' g1 g2 g3 => ?_
      · unfold rdN
        simp only [h3]
        rw [if_pos ⟨trivial, by omega⟩, List.drop_zero, h5]
      · rw [← zBi]
        have hK := hk (some ⟨b', 0, none⟩) c' (h.new b' ⟨bs (l ++ s), c'⟩) (.inr ⟨b', bs (l ++ s), c', rfl, by omega, g3, by rw [PH.new_m, if_pos rfl], by rw [zA0]; omega, by rw [List.take_of_length_le (by rw [zA0]; omega)], Nat.le_refl _⟩) (by simp only [PH.new_top]; omega) (fun x hx _ => by rw [PH.new_m, if_neg (by omega)]) (fun a e => by cases e; exact .inr g1)
        rwa [hll] at hK
structure Dk where
  l : List UInt8
  safe : Int
  room : Int
  fuse : Int
  down : Bool
def DKc (A : Option Addr) (c : Nat) (d : Dk) : List Value := [.slice A d.l.length c, .int .i64 d.safe, .int .i64 d.room, .int .i64 d.fuse, .bool d.down]
structure DS (h0 h : PH) (b : Nat) (d : Dk) : Prop where
  top : h0.top ≤ h.top
  low : h0.m b = none
  same : ∀ x k, h0.m x = some k → h.m x = some k
  cells : ∃ A c, h.m b = some ⟨DKc A c d, 5⟩ ∧ Ro h A d.l c ∧ ∀ a, A = some a → h0.m a.block = none ∧ a.block ≠ b
theorem DS.upd {h0 h : PH} {b : Nat} {d d' : Dk} {A : Option Addr} {c : Nat} (hd : DS h0 h b d) (hr : Ro h A d'.l c) (hA : ∀ a, A = some a → h0.m a.block = none ∧ a.block ≠ b) : DS h0 (h.new b ⟨DKc A c d', 5⟩) b d' :=
  ⟨by simp only [PH.new_top]; have := hd.top; omega, hd.low, fun x k e => by rw [PH.new_m, if_neg (fun q => by subst q; rw [hd.low] at e; cases e)]; exact hd.same x k e, A, c, by rw [PH.new_m, if_pos rfl], hr.same fun a e => by rw [PH.new_m, if_neg (hA a e).2], hA⟩
theorem Px.PH.gone (h : PH) {b : Nat} (hb : h.top ≤ b) : h.m b = none := by
  cases e : h.m b with
  | none => rfl
  | some k => have := h.lt _ _ e; omega
theorem DS.more {h0 h : PH} {b be : Nat} {d : Dk} {k : Bk} (hd : DS h0 h b d) (he : h.top ≤ be) : DS h0 (h.new be k) b d := by
  obtain ⟨A, c, hb, hr, hA⟩ := hd.cells
  have hlt := h.lt _ _ hb
  refine ⟨by simp only [PH.new_top]; have := hd.top; omega, hd.low, fun x k e => by rw [PH.new_m, if_neg (by have := hd.top; have := h0.lt _ _ e; omega)]; exact hd.same x k e, A, c, by rw [PH.new_m, if_neg (by omega), hb], hr.same fun a e => ?_, hA⟩
  rcases hr with ⟨h1, _⟩ | ⟨b', X, lim, h1, _, _, h3, _⟩
  · rw [h1] at e; cases e
  · rw [h1] at e; cases e
    have := h.lt _ _ h3
    rw [PH.new_m, if_neg (by simp only; omega)]
end Go.Proofs.Ytblikpbaeippaaa

