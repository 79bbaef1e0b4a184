/- Parts Wrh, Wri, Base, Par, Pq, Rgx, Tk8, Base2, joined. No condition. -/
import Derived.Test.YtdlaoeepeakpeaaGreatM6A
import Derived.Test.YtdlaoeepeakpeaaGreatM7A
import Derived.Test.YtdlaoeepeakpeaaGreatRows
import Derived.WalkKit
import Derived.ProofKit
import Derived.OpenShut
import Derived.SizedLaws
import Derived.OpenVars
import Derived.Lib.Hide
import Derived.Deep.Fields
import Derived.Deep.Slices
import Derived.Test.YtdlaoeepeakpeaaGreatM3A
import Derived.Test.YtdlaoeepeakpeaaGreatM10A
import Derived.Test.YtdlaoeepeakpeaaGreatM14A
import Derived.Test.YtdlaoeepeakpeaaGreatM5A
import Derived.Deep.MidRow
import Derived.Laws.ResultCell
/- The document's reader: Vec. No condition. -/
namespace Go.Proofs.YtdlaoeepeakpeaaGreat
set_option linter.unusedVariables false
set_option linter.unusedSimpArgs false
open Go.RowKit Px Wr
section
variable (w0 : World) (h : PH) (ib : Nat) (s : List UInt8)
set_option maxRecDepth 20000 in
set_option maxHeartbeats 2000000 in
theorem rvec_any (hs : s.length ≤ 1000000000) (st : St) (hi : RI h ib s st) : PCalls Tryz.prog w0 35 [.pointer (some ⟨ib, 0, none⟩)] h fun r h' => ∃ A c, r = .slice A (vecS s.length st).1.length c ∧ OwnC (· = ib) h h' 1 r (vecS s.length st).1.length (ints (vecS s.length st).1) ∧ RI h' ib s (vecS s.length st).2 := by
  refine PCalls_body Tryz.func35 (by kernel_rfl) rfl _ Tryz.ntmps35 (by kernel_rfl) (by kernel_rfl) _ Tryz.results35 ?_
  cases st with
  | bad p =>
    have hR : vecS s.length (.bad p) = ([], .bad p) := rfl
    rw [hR]
    obtain ⟨a, h1, h3⟩ := id hi
    have e0 : decide ((p : Int) ≥ 0) = true := decide_eq_true (by omega)
    simp -dsimp -implicitDefEqProofs (disch := first | omega | assumption | (simp only [Option.isSome_some,Qt0]; done) | (simp only [List.length_cons,List.length_nil,List.length_append,Int.toNat_natCast] <;> omega)) only [Nat.reduceLT,Nat.reduceLeDiff,Nat.reduceEqDiff,↓reduceIte,Int.reduceLT,Int.reduceLE,Int.reduceToNat,Int.reduceEq,Int.reduceNe,Nat.reduceAdd,Int.reduceAdd,Int.reduceSub,Int.reduceMul,Nat.reduceMul,Qp0,Ql0,Qe0,rd_M,rdM_some,h3,e0]
    exact ⟨_, PH.Le.refl _, _, _, by first | rfl | trivial, OwnC.nil (Chg.refl _ _) 1, hi⟩
  | ok t =>
    have hN := rnum_any w0 h ib s hs 16 _ hi
    have hibt := rib_lt hi
    obtain ⟨a0, h1, rfl, h3⟩ := hi
    have hfl : s.length - (s.drop a0).length = a0 := by simp; omega
    generalize ht : s.drop a0 = t at *
    have hN := Lib.hid hN
    simp -dsimp -implicitDefEqProofs (disch := first | omega | assumption | (simp only [Option.isSome_some,Qt0]; done) | (simp only [List.length_cons,List.length_nil,List.length_append,Int.toNat_natCast] <;> omega)) only [Nat.reduceLT,Nat.reduceLeDiff,Nat.reduceEqDiff,↓reduceIte,Int.reduceLT,Int.reduceLE,Int.reduceToNat,Int.reduceEq,Int.reduceNe,Nat.reduceAdd,Int.reduceAdd,Int.reduceSub,Int.reduceMul,Nat.reduceMul,Qp0,Ql0,Qe0,rd_M,rdM_some,h3]
    refine hN.out.mono ?_
    rintro v h2 ⟨rfl, hi2, hc2⟩
    have h0 : ∃ r st1, numS 16 s.length (.ok t) = (r, st1) ∧ r ≤ 16 ∧ VK s t a0 r [] st1 := by
      cases hp : numP t 16 with
      | none => exact ⟨0, _, numS_fail _ hp, by omega, by rw [hfl]; show vecS _ _ = _; rw [vecS_no _ hp, hfl]⟩
      | some p => obtain ⟨n, u⟩ := p; exact ⟨n, _, numS_ok _ hp, by have := (numP_inv hp).2.1; omega, n, u, hp, by simp⟩
    obtain ⟨r0, st1, e0, hr0, hK0⟩ := h0
    rw [e0] at hi2
    rw [e0]
    clear hN
    simp -dsimp -implicitDefEqProofs (disch := first | omega | assumption | (simp only [Option.isSome_some,Qt0]; done) | (simp only [List.length_cons,List.length_nil,List.length_append,Int.toNat_natCast] <;> omega)) only [Nat.reduceLT,Nat.reduceLeDiff,Nat.reduceEqDiff,↓reduceIte,Int.reduceLT,Int.reduceLE,Int.reduceToNat,Int.reduceEq,Int.reduceNe,Nat.reduceAdd,Int.reduceAdd,Int.reduceSub,Int.reduceMul,Nat.reduceMul,Qp0,Ql0,Qe0]
    refine Does_zero el_ints fun b0 hb0 => ?_
    have hz := OwnC.zero hc2 1 hb0
    have hi2 := hi2.more ((PH.Le.refl h2).new b0 ⟨[], 0⟩ hb0)
    simp -dsimp -implicitDefEqProofs (disch := first | omega | assumption | (simp only [Option.isSome_some,Qt0]; done) | (simp only [List.length_cons,List.length_nil,List.length_append,Int.toNat_natCast] <;> omega)) only [Nat.reduceLT,Nat.reduceLeDiff,Nat.reduceEqDiff,↓reduceIte,Int.reduceLT,Int.reduceLE,Int.reduceToNat,Int.reduceEq,Int.reduceNe,Nat.reduceAdd,Int.reduceAdd,Int.reduceSub,Int.reduceMul,Nat.reduceMul,Qp0,Ql0,Qe0]
    refine PW_loopL (fun m f h' => ∃ (v' : List Int) (u' : Value) (st' : St), m + v'.length = r0 ∧ f 0 = some (.pointer (some ⟨ib, 0, none⟩)) ∧ f 3 = some (.int .i64 a0) ∧ f 4 = some (.int .i64 r0) ∧ f 5 = some u' ∧ f 6 = some (.int .i64 v'.length) ∧ OwnC (· = ib) h h' 1 u' v'.length (ints v') ∧ RI h' ib s st' ∧ VK s t a0 m v' st') (by kernel_rfl) r0 ⟨[], _, st1, by simp, ?_, ?_, ?_, ?_, ?_, hz, hi2, hK0⟩ ?_
    · simp -dsimp -implicitDefEqProofs (disch := first | omega | assumption | (simp only [Option.isSome_some,Qt0]; done) | (simp only [List.length_cons,List.length_nil,List.length_append,Int.toNat_natCast] <;> omega)) only [Nat.reduceLT,Nat.reduceLeDiff,Nat.reduceEqDiff,↓reduceIte,Int.reduceLT,Int.reduceLE,Int.reduceToNat,Int.reduceEq,Int.reduceNe,Nat.reduceAdd,Int.reduceAdd,Int.reduceSub,Int.reduceMul,Nat.reduceMul,Qp0,Ql0,Qe0]
    · simp -dsimp -implicitDefEqProofs (disch := first | omega | assumption | (simp only [Option.isSome_some,Qt0]; done) | (simp only [List.length_cons,List.length_nil,List.length_append,Int.toNat_natCast] <;> omega)) only [Nat.reduceLT,Nat.reduceLeDiff,Nat.reduceEqDiff,↓reduceIte,Int.reduceLT,Int.reduceLE,Int.reduceToNat,Int.reduceEq,Int.reduceNe,Nat.reduceAdd,Int.reduceAdd,Int.reduceSub,Int.reduceMul,Nat.reduceMul,Qp0,Ql0,Qe0]
    · simp -dsimp -implicitDefEqProofs (disch := first | omega | assumption | (simp only [Option.isSome_some,Qt0]; done) | (simp only [List.length_cons,List.length_nil,List.length_append,Int.toNat_natCast] <;> omega)) only [Nat.reduceLT,Nat.reduceLeDiff,Nat.reduceEqDiff,↓reduceIte,Int.reduceLT,Int.reduceLE,Int.reduceToNat,Int.reduceEq,Int.reduceNe,Nat.reduceAdd,Int.reduceAdd,Int.reduceSub,Int.reduceMul,Nat.reduceMul,Qp0,Ql0,Qe0]
    · simp -dsimp -implicitDefEqProofs (disch := first | omega | assumption | (simp only [Option.isSome_some,Qt0]; done) | (simp only [List.length_cons,List.length_nil,List.length_append,Int.toNat_natCast] <;> omega)) only [Nat.reduceLT,Nat.reduceLeDiff,Nat.reduceEqDiff,↓reduceIte,Int.reduceLT,Int.reduceLE,Int.reduceToNat,Int.reduceEq,Int.reduceNe,Nat.reduceAdd,Int.reduceAdd,Int.reduceSub,Int.reduceMul,Nat.reduceMul,Qp0,Ql0,Qe0]
    · simp -dsimp -implicitDefEqProofs (disch := first | omega | assumption | (simp only [Option.isSome_some,Qt0]; done) | (simp only [List.length_cons,List.length_nil,List.length_append,Int.toNat_natCast] <;> omega)) only [Nat.reduceLT,Nat.reduceLeDiff,Nat.reduceEqDiff,↓reduceIte,Int.reduceLT,Int.reduceLE,Int.reduceToNat,Int.reduceEq,Int.reduceNe,Nat.reduceAdd,Int.reduceAdd,Int.reduceSub,Int.reduceMul,Nat.reduceMul,Qp0,Ql0,Qe0]
      try rfl
    clear hi2 hc2 hK0 e0 hz
    rintro m f h' ⟨v', u', st', hmv, f0, f3, f4, f5, f6, how, hi2, hK⟩ hl
    obtain ⟨A, c, rfl, hc⟩ := how.own.len
    cases m with
    | zero =>
      have e1 : decide ((v'.length : Int) < (r0 : Int)) = false := decide_eq_false (by omega)
      cases st' with
      | bad p =>
        have hR : vecS s.length (.ok t) = ([], .bad a0) := hK
        obtain ⟨a1, g1, g3⟩ := hi2
        have e2 : decide ((p : Int) ≥ 0) = true := decide_eq_true (by omega)
        have hc3 := (how.chg.one ⟨[str s, .int .i64 a0, .int .i64 p], 3⟩).one ⟨[str s, .int .i64 a0, .int .i64 a0], 3⟩
        rw [hR]
        simp -dsimp -implicitDefEqProofs (disch := first | omega | assumption | (simp only [Option.isSome_some,Qt0]; done) | (simp only [List.length_cons,List.length_nil,List.length_append,Int.toNat_natCast] <;> omega)) only [Nat.reduceLT,Nat.reduceLeDiff,Nat.reduceEqDiff,↓reduceIte,Int.reduceLT,Int.reduceLE,Int.reduceToNat,Int.reduceEq,Int.reduceNe,Nat.reduceAdd,Int.reduceAdd,Int.reduceSub,Int.reduceMul,Nat.reduceMul,Qp0,Ql0,Qe0,f0,f3,f4,f5,f6,e1,rd_M,rdM_some,g3,e2,List.set_cons_zero,List.set_cons_succ,ite_true]
        exact ⟨_, PH.Le.refl _, _, _, by first | rfl | trivial, OwnC.nil hc3 1, a0, h1, by rw [PH.new_m, if_pos rfl]⟩
      | ok u =>
        obtain ⟨n0, u0, hp0, hns⟩ := hK
        rw [numsP_zero] at hns
        simp only [Option.map_some, List.append_nil] at hns
        have hT := rtrimmed_any w0 h' hl A c v' 1099511627776 (Rv.own how.own) hc (by omega)
        obtain ⟨a1, g1, g2, g3⟩ := id hi2
        cases htr : trim v' 1099511627776 with
        | true =>
          have hR : vecS s.length (.ok t) = (v', .ok u) := vecS_ok _ hp0 hns htr
          rw [htr] at hT
          have hT := Lib.hid hT
          rw [hR]
          simp -dsimp -implicitDefEqProofs (disch := first | omega | assumption | (simp only [Option.isSome_some,Qt0]; done) | (simp only [List.length_cons,List.length_nil,List.length_append,Int.toNat_natCast] <;> omega)) only [Nat.reduceLT,Nat.reduceLeDiff,Nat.reduceEqDiff,↓reduceIte,Int.reduceLT,Int.reduceLE,Int.reduceToNat,Int.reduceEq,Int.reduceNe,Nat.reduceAdd,Int.reduceAdd,Int.reduceSub,Int.reduceMul,Nat.reduceMul,Qp0,Ql0,Qe0,f0,f3,f4,f5,f6,e1,rd_M,rdM_some,g3]
          refine hT.out.mono ?_
          rintro v hq ⟨rfl, hz⟩
          obtain rfl := hz.symm
          simp -dsimp -implicitDefEqProofs (disch := first | omega | assumption | (simp only [Option.isSome_some,Qt0]; done) | (simp only [List.length_cons,List.length_nil,List.length_append,Int.toNat_natCast] <;> omega)) only [Nat.reduceLT,Nat.reduceLeDiff,Nat.reduceEqDiff,↓reduceIte,Int.reduceLT,Int.reduceLE,Int.reduceToNat,Int.reduceEq,Int.reduceNe,Nat.reduceAdd,Int.reduceAdd,Int.reduceSub,Int.reduceMul,Nat.reduceMul,Qp0,Ql0,Qe0,f0,f3,f4,f5]
          exact ⟨_, PH.Le.refl _, A, c, by first | rfl | trivial, how, hi2⟩
        | false =>
          have hR : vecS s.length (.ok t) = ([], .bad a0) := by rw [vecS_no3 _ hp0 hns htr, hfl]
          rw [htr] at hT
          have hT := Lib.hid hT
          have hc3 := (how.chg.one ⟨[str s, .int .i64 a0, .int .i64 (-1)], 3⟩).one ⟨[str s, .int .i64 a0, .int .i64 a0], 3⟩
          rw [hR]
          simp -dsimp -implicitDefEqProofs (disch := first | omega | assumption | (simp only [Option.isSome_some,Qt0]; done) | (simp only [List.length_cons,List.length_nil,List.length_append,Int.toNat_natCast] <;> omega)) only [Nat.reduceLT,Nat.reduceLeDiff,Nat.reduceEqDiff,↓reduceIte,Int.reduceLT,Int.reduceLE,Int.reduceToNat,Int.reduceEq,Int.reduceNe,Nat.reduceAdd,Int.reduceAdd,Int.reduceSub,Int.reduceMul,Nat.reduceMul,Qp0,Ql0,Qe0,f0,f3,f4,f5,f6,e1,rd_M,rdM_some,g3]
          refine hT.out.mono ?_
          rintro v hq ⟨rfl, hz⟩
          obtain rfl := hz.symm
          simp -dsimp -implicitDefEqProofs (disch := first | omega | assumption | (simp only [Option.isSome_some,Qt0]; done) | (simp only [List.length_cons,List.length_nil,List.length_append,Int.toNat_natCast] <;> omega)) only [Nat.reduceLT,Nat.reduceLeDiff,Nat.reduceEqDiff,↓reduceIte,Int.reduceLT,Int.reduceLE,Int.reduceToNat,Int.reduceEq,Int.reduceNe,Nat.reduceAdd,Int.reduceAdd,Int.reduceSub,Int.reduceMul,Nat.reduceMul,Qp0,Ql0,Qe0,f0,f3,f4,f5,rd_M,rdM_some,g3,List.set_cons_zero,List.set_cons_succ,ite_true]
          exact ⟨_, PH.Le.refl _, _, _, by first | rfl | trivial, OwnC.nil hc3 1, a0, h1, by rw [PH.new_m, if_pos rfl]⟩
    | succ r =>
      have e1 : decide ((v'.length : Int) < (r0 : Int)) = true := decide_eq_true (by omega)
      have hN := rnum_any w0 h' ib s hs 1099511627776 _ hi2
      have hstep : ∃ (x : Nat) (st2 : St), numS 1099511627776 s.length st' = (x, st2) ∧ VK s t a0 r (v' ++ [(x : Int)]) st2 := by
        cases st' with
        | bad p => exact ⟨0, _, rfl, hK⟩
        | ok u =>
          obtain ⟨n0, u0, hp0, hns⟩ := hK
          cases hp : numP u 1099511627776 with
          | none =>
            refine ⟨0, _, numS_fail _ hp, ?_⟩
            show vecS _ _ = _
            rw [vecS_no2 _ hp0 (by rw [hns, numsP_none hp]; rfl), hfl]
          | some p =>
            obtain ⟨x, u2⟩ := p
            refine ⟨x, _, numS_ok _ hp, n0, u0, hp0, ?_⟩
            rw [hns, numsP_some hp, Option.map_map]
            congr 1
            funext q
            simp
      obtain ⟨x, st2, e2, hK2⟩ := hstep
      rw [e2] at hN
      have hN := Lib.hid hN
      simp -dsimp -implicitDefEqProofs (disch := first | omega | assumption | (simp only [Option.isSome_some,Qt0]; done) | (simp only [List.length_cons,List.length_nil,List.length_append,Int.toNat_natCast] <;> omega)) only [Nat.reduceLT,Nat.reduceLeDiff,Nat.reduceEqDiff,↓reduceIte,Int.reduceLT,Int.reduceLE,Int.reduceToNat,Int.reduceEq,Int.reduceNe,Nat.reduceAdd,Int.reduceAdd,Int.reduceSub,Int.reduceMul,Nat.reduceMul,Qp0,Ql0,Qe0,f0,f3,f4,f5,f6,e1]
      refine hN.out.mono ?_
      rintro v h4 ⟨rfl, hi4, hc4⟩
      have how4 := how.chg' hc4 (fun x e => by rw [e]; exact hibt)
      simp -dsimp -implicitDefEqProofs (disch := first | omega | assumption | (simp only [Option.isSome_some,Qt0]; done) | (simp only [List.length_cons,List.length_nil,List.length_append,Int.toNat_natCast] <;> omega)) only [Nat.reduceLT,Nat.reduceLeDiff,Nat.reduceEqDiff,↓reduceIte,Int.reduceLT,Int.reduceLE,Int.reduceToNat,Int.reduceEq,Int.reduceNe,Nat.reduceAdd,Int.reduceAdd,Int.reduceSub,Int.reduceMul,Nat.reduceMul,Qp0,Ql0,Qe0,f0,f3,f4,f5,f6]
      refine Does_one (v := .int .i64 x) el_ints rfl (by omega) fun gb hgb => ?_
      have hl5 := (PH.Le.refl h4).new gb ⟨[.int .i64 x], 1⟩ hgb
      have how5 := how4.more hl5
      have hi5 := hi4.more hl5
      simp -dsimp -implicitDefEqProofs (disch := first | omega | assumption | (simp only [Option.isSome_some,Qt0]; done) | (simp only [List.length_cons,List.length_nil,List.length_append,Int.toNat_natCast] <;> omega)) only [Nat.reduceLT,Nat.reduceLeDiff,Nat.reduceEqDiff,↓reduceIte,Int.reduceLT,Int.reduceLE,Int.reduceToNat,Int.reduceEq,Int.reduceNe,Nat.reduceAdd,Int.reduceAdd,Int.reduceSub,Int.reduceMul,Nat.reduceMul,Qp0,Ql0,Qe0,f0,f3,f4,f5,f6]
      refine Does_app el_ints how5.own (Rs.blk (k := ⟨[.int .i64 x], 1⟩) (by rw [PH.new_m, if_pos rfl]; rfl) rfl) (ints_one [_]) (by unfold maxLen; omega) (by omega) (fun v6 h6 ho6 hst6 => ?_)
      have ho7 : Own h6 1 v6 (v' ++ [(x : Int)]).length (ints (v' ++ [(x : Int)])) := by rw [← ints_snoc, List.length_append]; exact ho6
      have hi6 : RI h6 ib s st2 := by
        have hne : ∀ y k, (h4.new gb ⟨[.int .i64 x], 1⟩).m y = some k → y < h.top → h6.m y = some k := fun y k e hy => hst6.keep y k e (fun e' => by have := how5.new y e'; omega)
        cases st2 with
        | ok t2 => obtain ⟨q1, q2, q3, q4⟩ := hi5; exact ⟨q1, q2, q3, hne _ _ q4 hibt⟩
        | bad p2 => obtain ⟨q1, q2, q5⟩ := hi5; exact ⟨q1, q2, hne _ _ q5 hibt⟩
      simp -dsimp -implicitDefEqProofs (disch := first | omega | assumption | (simp only [Option.isSome_some,Qt0]; done) | (simp only [List.length_cons,List.length_nil,List.length_append,Int.toNat_natCast] <;> omega)) only [Nat.reduceLT,Nat.reduceLeDiff,Nat.reduceEqDiff,↓reduceIte,Int.reduceLT,Int.reduceLE,Int.reduceToNat,Int.reduceEq,Int.reduceNe,Nat.reduceAdd,Int.reduceAdd,Int.reduceSub,Int.reduceMul,Nat.reduceMul,Qp0,Ql0,Qe0,f0,f3,f4,f5,f6]
      exact ⟨r, _, by omega, PH.Le.refl _, v' ++ [(x : Int)], v6, st2, by simp; omega, by trivial, by trivial, by trivial, by trivial, by simp, how5.stays hst6 ho7, hi6, hK2⟩
end
end Go.Proofs.YtdlaoeepeakpeaaGreat


/- Walks: ReadClaims. No condition. -/
namespace Go.Proofs.YtdlaoeepeakpeaaGreat
set_option linter.unusedVariables false
set_option linter.unusedSimpArgs false
open Go.RowKit Px Wr
set_option maxRecDepth 20000 in
set_option maxHeartbeats 4000000 in
theorem readC_any (s : List UInt8) (hs : s.length ≤ 1000000000) (w0 : World) (h : PH) : PCalls Tryz.prog w0 16 [str s] h fun r h' => REC w0 h' s r ∧ PH.Le h h' := by
  refine PCalls_body Tryz.func16 (by kernel_rfl) rfl _ Tryz.ntmps16 (by kernel_rfl) (by kernel_rfl) _ Tryz.results16 ?_
  simp -dsimp -implicitDefEqProofs (disch := first | omega | assumption | (simp only [Option.isSome_some,Qt0]; done) | (simp only [List.length_cons,List.length_nil,List.length_append,Int.toNat_natCast] <;> omega)) only [Nat.reduceLT,Nat.reduceLeDiff,Nat.reduceEqDiff,↓reduceIte,Int.reduceLT,Int.reduceLE,Int.reduceToNat,Int.reduceEq,Int.reduceNe,Nat.reduceAdd,Int.reduceAdd,Int.reduceSub,Int.reduceMul,Nat.reduceMul,Qp0,Ql0,Qe0]
  refine fun rb hrb => ?_
  have hle := (PH.Le.refl h).new rb ⟨[.string ⟨#[]⟩, .string ⟨#[]⟩, .int .i64 0, .int .i64 0, .int .i64 0, .slice none 0 0], 6⟩ hrb
  have hm : (h.new rb ⟨[.string ⟨#[]⟩, .string ⟨#[]⟩, .int .i64 0, .int .i64 0, .int .i64 0, .slice none 0 0], 6⟩).m rb = some ⟨[.string ⟨#[]⟩, .string ⟨#[]⟩, .int .i64 0, .int .i64 0, .int .i64 0, .slice none 0 0], 6⟩ := by rw [PH.new_m, if_pos rfl]
  simp -dsimp -implicitDefEqProofs (disch := first | omega | assumption | (simp only [Option.isSome_some,Qt0]; done) | (simp only [List.length_cons,List.length_nil,List.length_append,Int.toNat_natCast] <;> omega)) only [Nat.reduceLT,Nat.reduceLeDiff,Nat.reduceEqDiff,↓reduceIte,Int.reduceLT,Int.reduceLE,Int.reduceToNat,Int.reduceEq,Int.reduceNe,Nat.reduceAdd,Int.reduceAdd,Int.reduceSub,Int.reduceMul,Nat.reduceMul,Qp0,Ql0,Qe0]
  generalize h.new rb ⟨[.string ⟨#[]⟩, .string ⟨#[]⟩, .int .i64 0, .int .i64 0, .int .i64 0, .slice none 0 0], 6⟩ = h1 at *
  refine (rread_any w0 h1 s).mono ?_
  rintro v q2 ⟨ib, rfl, hib, hl2, hi⟩
  have hibl := rib_lt hi
  have hne : rb ≠ ib := by have := h1.lt _ _ hm; omega
  have hib0 : h.top ≤ ib := Nat.le_trans hle.top hib
  have hm := hl2.m _ _ hm
  have hle2 := hle.trans hl2
  have hcc := Chg.refl (· = ib) q2
  simp -dsimp -implicitDefEqProofs (disch := first | omega | assumption | (simp only [Option.isSome_some,Qt0]; done) | (simp only [List.length_cons,List.length_nil,List.length_append,Int.toNat_natCast] <;> omega)) only [Nat.reduceLT,Nat.reduceLeDiff,Nat.reduceEqDiff,↓reduceIte,Int.reduceLT,Int.reduceLE,Int.reduceToNat,Int.reduceEq,Int.reduceNe,Nat.reduceAdd,Int.reduceAdd,Int.reduceSub,Int.reduceMul,Nat.reduceMul,Qp0,Ql0,Qe0]
  refine fun wb hwb => ?_
  have hlw := (PH.Le.refl q2).new wb ⟨[.string ⟨#[]⟩, .string ⟨#[]⟩, .int .i64 0, .int .i64 0, .int .i64 0, .slice none 0 0], 6⟩ hwb
  have hw : (q2.new wb ⟨[.string ⟨#[]⟩, .string ⟨#[]⟩, .int .i64 0, .int .i64 0, .int .i64 0, .slice none 0 0], 6⟩).m wb = some ⟨[.string ⟨#[]⟩, .string ⟨#[]⟩, .int .i64 0, .int .i64 0, .int .i64 0, .slice none 0 0], 6⟩ := by rw [PH.new_m, if_pos rfl]
  have ha := allOne_of [.string ⟨#[]⟩, .string ⟨#[]⟩, .int .i64 0, .int .i64 0, .int .i64 0, .slice none 0 0] rfl
  have hrw : rb ≠ wb := by have := q2.lt _ _ hm; omega
  have hnw : wb ≠ ib := by omega
  have hwb0 : h.top ≤ wb := Nat.le_trans (Nat.le_trans hle2.top hcc.top) hwb
  have hcc := (hcc.mono (G := fun x => x = ib ∨ x = rb ∨ x = wb) fun x _ e => .inl e).trans (.le hlw)
  have hm := hlw.m _ _ hm
  have hi := hi.more hlw
  have hibl := Nat.lt_of_lt_of_le hibl hlw.top
  simp -dsimp -implicitDefEqProofs (disch := first | omega | assumption | (simp only [Option.isSome_some,Qt0]; done) | (simp only [List.length_cons,List.length_nil,List.length_append,Int.toNat_natCast] <;> omega)) only [Nat.reduceLT,Nat.reduceLeDiff,Nat.reduceEqDiff,↓reduceIte,Int.reduceLT,Int.reduceLE,Int.reduceToNat,Int.reduceEq,Int.reduceNe,Nat.reduceAdd,Int.reduceAdd,Int.reduceSub,Int.reduceMul,Nat.reduceMul,Qp0,Ql0,Qe0,List.set_cons_zero,List.set_cons_succ,List.take_zero,List.drop_succ_cons,List.drop_zero,List.drop_nil,List.nil_append,List.append_nil,List.take_succ_cons,ite_true,PH.new_new]
  generalize q2.new wb ⟨[.string ⟨#[]⟩, .string ⟨#[]⟩, .int .i64 0, .int .i64 0, .int .i64 0, .slice none 0 0], 6⟩ = q3 at *
  refine (rtext_any w0 _ ib s hs 4611686018427387903 _ hi).mono ?_
  rintro v q4 ⟨rfl, hi, hc⟩
  obtain ⟨⟨x1, s1⟩, e1⟩ : ∃ p, p = txtS 4611686018427387903 s.length (.ok s) := ⟨_, rfl⟩
  rw [← e1] at hi
  rw [← e1]
  simp only at hi
  have hm := hc.m _ _ hm hne
  have hw := hc.m _ _ hw hnw
  have hcc := hcc.trans (hc.mono (G := fun x => x = ib ∨ x = rb ∨ x = wb) fun x _ e => .inl e)
  have hibl := Nat.lt_of_lt_of_le hibl hc.top
  simp -dsimp -implicitDefEqProofs (disch := first | omega | assumption | (simp only [Option.isSome_some,Qt0]; done) | (simp only [List.length_cons,List.length_nil,List.length_append,Int.toNat_natCast] <;> omega)) only [Nat.reduceLT,Nat.reduceLeDiff,Nat.reduceEqDiff,↓reduceIte,Int.reduceLT,Int.reduceLE,Int.reduceToNat,Int.reduceEq,Int.reduceNe,Nat.reduceAdd,Int.reduceAdd,Int.reduceSub,Int.reduceMul,Nat.reduceMul,Qp0,Ql0,Qe0,rd_M,rdM_some,hm,hw,List.set_cons_zero,List.set_cons_succ,List.take_zero,List.drop_succ_cons,List.drop_zero,List.drop_nil,List.nil_append,List.append_nil,List.take_succ_cons,ite_true,PH.new_new]
  have hcc := hcc.put (F := fun x => x = ib ∨ x = rb ∨ x = wb) (b := wb) (.inr (.inr rfl)) ⟨[str x1, .string ⟨#[]⟩, .int .i64 0, .int .i64 0, .int .i64 0, .slice none 0 0], 6⟩
  have hi := hi.chg (F := (· = wb)) ((Chg.refl (· = wb) q4).one ⟨[str x1, .string ⟨#[]⟩, .int .i64 0, .int .i64 0, .int .i64 0, .slice none 0 0], 6⟩) (fun e => hnw e.symm)
  have hm : (q4.new wb ⟨[str x1, .string ⟨#[]⟩, .int .i64 0, .int .i64 0, .int .i64 0, .slice none 0 0], 6⟩).m rb = some ⟨[.string ⟨#[]⟩, .string ⟨#[]⟩, .int .i64 0, .int .i64 0, .int .i64 0, .slice none 0 0], 6⟩ := by rw [PH.new_m, if_neg hrw]; exact hm
  have hw : (q4.new wb ⟨[str x1, .string ⟨#[]⟩, .int .i64 0, .int .i64 0, .int .i64 0, .slice none 0 0], 6⟩).m wb = some ⟨[str x1, .string ⟨#[]⟩, .int .i64 0, .int .i64 0, .int .i64 0, .slice none 0 0], 6⟩ := by rw [PH.new_m, if_pos rfl]
  have hibl : ib < (q4.new wb ⟨[str x1, .string ⟨#[]⟩, .int .i64 0, .int .i64 0, .int .i64 0, .slice none 0 0], 6⟩).top := by simp only [PH.new_top]; omega
  generalize q4.new wb ⟨[str x1, .string ⟨#[]⟩, .int .i64 0, .int .i64 0, .int .i64 0, .slice none 0 0], 6⟩ = q5 at *
  refine (rtext_any w0 _ ib s hs 4611686018427387903 _ hi).mono ?_
  rintro v q6 ⟨rfl, hi, hc⟩
  obtain ⟨⟨x2, s2⟩, e2⟩ : ∃ p, p = txtS 4611686018427387903 s.length s1 := ⟨_, rfl⟩
  rw [← e2] at hi
  rw [← e2]
  simp only at hi
  have hm := hc.m _ _ hm hne
  have hw := hc.m _ _ hw hnw
  have hcc := hcc.trans (hc.mono (G := fun x => x = ib ∨ x = rb ∨ x = wb) fun x _ e => .inl e)
  have hibl := Nat.lt_of_lt_of_le hibl hc.top
  simp -dsimp -implicitDefEqProofs (disch := first | omega | assumption | (simp only [Option.isSome_some,Qt0]; done) | (simp only [List.length_cons,List.length_nil,List.length_append,Int.toNat_natCast] <;> omega)) only [Nat.reduceLT,Nat.reduceLeDiff,Nat.reduceEqDiff,↓reduceIte,Int.reduceLT,Int.reduceLE,Int.reduceToNat,Int.reduceEq,Int.reduceNe,Nat.reduceAdd,Int.reduceAdd,Int.reduceSub,Int.reduceMul,Nat.reduceMul,Qp0,Ql0,Qe0,rd_M,rdM_some,hm,hw,List.set_cons_zero,List.set_cons_succ,List.take_zero,List.drop_succ_cons,List.drop_zero,List.drop_nil,List.nil_append,List.append_nil,List.take_succ_cons,ite_true,PH.new_new]
  have hcc := hcc.put (F := fun x => x = ib ∨ x = rb ∨ x = wb) (b := wb) (.inr (.inr rfl)) ⟨[str x1, str x2, .int .i64 0, .int .i64 0, .int .i64 0, .slice none 0 0], 6⟩
  have hi := hi.chg (F := (· = wb)) ((Chg.refl (· = wb) q6).one ⟨[str x1, str x2, .int .i64 0, .int .i64 0, .int .i64 0, .slice none 0 0], 6⟩) (fun e => hnw e.symm)
  have hm : (q6.new wb ⟨[str x1, str x2, .int .i64 0, .int .i64 0, .int .i64 0, .slice none 0 0], 6⟩).m rb = some ⟨[.string ⟨#[]⟩, .string ⟨#[]⟩, .int .i64 0, .int .i64 0, .int .i64 0, .slice none 0 0], 6⟩ := by rw [PH.new_m, if_neg hrw]; exact hm
  have hw : (q6.new wb ⟨[str x1, str x2, .int .i64 0, .int .i64 0, .int .i64 0, .slice none 0 0], 6⟩).m wb = some ⟨[str x1, str x2, .int .i64 0, .int .i64 0, .int .i64 0, .slice none 0 0], 6⟩ := by rw [PH.new_m, if_pos rfl]
  have hibl : ib < (q6.new wb ⟨[str x1, str x2, .int .i64 0, .int .i64 0, .int .i64 0, .slice none 0 0], 6⟩).top := by simp only [PH.new_top]; omega
  generalize q6.new wb ⟨[str x1, str x2, .int .i64 0, .int .i64 0, .int .i64 0, .slice none 0 0], 6⟩ = q7 at *
  refine (rnum_any w0 _ ib s hs 4611686018427387903 _ hi).mono ?_
  rintro v q8 ⟨rfl, hi, hc⟩
  obtain ⟨⟨x3, s3⟩, e3⟩ : ∃ p, p = numS 4611686018427387903 s.length s2 := ⟨_, rfl⟩
  rw [← e3] at hi
  rw [← e3]
  simp only at hi
  have hm := hc.m _ _ hm hne
  have hw := hc.m _ _ hw hnw
  have hcc := hcc.trans (hc.mono (G := fun x => x = ib ∨ x = rb ∨ x = wb) fun x _ e => .inl e)
  have hibl := Nat.lt_of_lt_of_le hibl hc.top
  simp -dsimp -implicitDefEqProofs (disch := first | omega | assumption | (simp only [Option.isSome_some,Qt0]; done) | (simp only [List.length_cons,List.length_nil,List.length_append,Int.toNat_natCast] <;> omega)) only [Nat.reduceLT,Nat.reduceLeDiff,Nat.reduceEqDiff,↓reduceIte,Int.reduceLT,Int.reduceLE,Int.reduceToNat,Int.reduceEq,Int.reduceNe,Nat.reduceAdd,Int.reduceAdd,Int.reduceSub,Int.reduceMul,Nat.reduceMul,Qp0,Ql0,Qe0,rd_M,rdM_some,hm,hw,List.set_cons_zero,List.set_cons_succ,List.take_zero,List.drop_succ_cons,List.drop_zero,List.drop_nil,List.nil_append,List.append_nil,List.take_succ_cons,ite_true,PH.new_new]
  have hcc := hcc.put (F := fun x => x = ib ∨ x = rb ∨ x = wb) (b := wb) (.inr (.inr rfl)) ⟨[str x1, str x2, .int .i64 x3, .int .i64 0, .int .i64 0, .slice none 0 0], 6⟩
  have hi := hi.chg (F := (· = wb)) ((Chg.refl (· = wb) q8).one ⟨[str x1, str x2, .int .i64 x3, .int .i64 0, .int .i64 0, .slice none 0 0], 6⟩) (fun e => hnw e.symm)
  have hm : (q8.new wb ⟨[str x1, str x2, .int .i64 x3, .int .i64 0, .int .i64 0, .slice none 0 0], 6⟩).m rb = some ⟨[.string ⟨#[]⟩, .string ⟨#[]⟩, .int .i64 0, .int .i64 0, .int .i64 0, .slice none 0 0], 6⟩ := by rw [PH.new_m, if_neg hrw]; exact hm
  have hw : (q8.new wb ⟨[str x1, str x2, .int .i64 x3, .int .i64 0, .int .i64 0, .slice none 0 0], 6⟩).m wb = some ⟨[str x1, str x2, .int .i64 x3, .int .i64 0, .int .i64 0, .slice none 0 0], 6⟩ := by rw [PH.new_m, if_pos rfl]
  have hibl : ib < (q8.new wb ⟨[str x1, str x2, .int .i64 x3, .int .i64 0, .int .i64 0, .slice none 0 0], 6⟩).top := by simp only [PH.new_top]; omega
  generalize q8.new wb ⟨[str x1, str x2, .int .i64 x3, .int .i64 0, .int .i64 0, .slice none 0 0], 6⟩ = q9 at *
  refine (rnum_any w0 _ ib s hs 4611686018427387903 _ hi).mono ?_
  rintro v q10 ⟨rfl, hi, hc⟩
  obtain ⟨⟨x4, s4⟩, e4⟩ : ∃ p, p = numS 4611686018427387903 s.length s3 := ⟨_, rfl⟩
  rw [← e4] at hi
  rw [← e4]
  simp only at hi
  have hm := hc.m _ _ hm hne
  have hw := hc.m _ _ hw hnw
  have hcc := hcc.trans (hc.mono (G := fun x => x = ib ∨ x = rb ∨ x = wb) fun x _ e => .inl e)
  have hibl := Nat.lt_of_lt_of_le hibl hc.top
  simp -dsimp -implicitDefEqProofs (disch := first | omega | assumption | (simp only [Option.isSome_some,Qt0]; done) | (simp only [List.length_cons,List.length_nil,List.length_append,Int.toNat_natCast] <;> omega)) only [Nat.reduceLT,Nat.reduceLeDiff,Nat.reduceEqDiff,↓reduceIte,Int.reduceLT,Int.reduceLE,Int.reduceToNat,Int.reduceEq,Int.reduceNe,Nat.reduceAdd,Int.reduceAdd,Int.reduceSub,Int.reduceMul,Nat.reduceMul,Qp0,Ql0,Qe0,rd_M,rdM_some,hm,hw,List.set_cons_zero,List.set_cons_succ,List.take_zero,List.drop_succ_cons,List.drop_zero,List.drop_nil,List.nil_append,List.append_nil,List.take_succ_cons,ite_true,PH.new_new]
  have hcc := hcc.put (F := fun x => x = ib ∨ x = rb ∨ x = wb) (b := wb) (.inr (.inr rfl)) ⟨[str x1, str x2, .int .i64 x3, .int .i64 x4, .int .i64 0, .slice none 0 0], 6⟩
  have hi := hi.chg (F := (· = wb)) ((Chg.refl (· = wb) q10).one ⟨[str x1, str x2, .int .i64 x3, .int .i64 x4, .int .i64 0, .slice none 0 0], 6⟩) (fun e => hnw e.symm)
  have hm : (q10.new wb ⟨[str x1, str x2, .int .i64 x3, .int .i64 x4, .int .i64 0, .slice none 0 0], 6⟩).m rb = some ⟨[.string ⟨#[]⟩, .string ⟨#[]⟩, .int .i64 0, .int .i64 0, .int .i64 0, .slice none 0 0], 6⟩ := by rw [PH.new_m, if_neg hrw]; exact hm
  have hw : (q10.new wb ⟨[str x1, str x2, .int .i64 x3, .int .i64 x4, .int .i64 0, .slice none 0 0], 6⟩).m wb = some ⟨[str x1, str x2, .int .i64 x3, .int .i64 x4, .int .i64 0, .slice none 0 0], 6⟩ := by rw [PH.new_m, if_pos rfl]
  have hibl : ib < (q10.new wb ⟨[str x1, str x2, .int .i64 x3, .int .i64 x4, .int .i64 0, .slice none 0 0], 6⟩).top := by simp only [PH.new_top]; omega
  generalize q10.new wb ⟨[str x1, str x2, .int .i64 x3, .int .i64 x4, .int .i64 0, .slice none 0 0], 6⟩ = q11 at *
  refine (rnum_any w0 _ ib s hs 4611686018427387903 _ hi).mono ?_
  rintro v q12 ⟨rfl, hi, hc⟩
  obtain ⟨⟨x5, s5⟩, e5⟩ : ∃ p, p = numS 4611686018427387903 s.length s4 := ⟨_, rfl⟩
  rw [← e5] at hi
  rw [← e5]
  simp only at hi
  have hm := hc.m _ _ hm hne
  have hw := hc.m _ _ hw hnw
  have hcc := hcc.trans (hc.mono (G := fun x => x = ib ∨ x = rb ∨ x = wb) fun x _ e => .inl e)
  have hibl := Nat.lt_of_lt_of_le hibl hc.top
  simp -dsimp -implicitDefEqProofs (disch := first | omega | assumption | (simp only [Option.isSome_some,Qt0]; done) | (simp only [List.length_cons,List.length_nil,List.length_append,Int.toNat_natCast] <;> omega)) only [Nat.reduceLT,Nat.reduceLeDiff,Nat.reduceEqDiff,↓reduceIte,Int.reduceLT,Int.reduceLE,Int.reduceToNat,Int.reduceEq,Int.reduceNe,Nat.reduceAdd,Int.reduceAdd,Int.reduceSub,Int.reduceMul,Nat.reduceMul,Qp0,Ql0,Qe0,rd_M,rdM_some,hm,hw,List.set_cons_zero,List.set_cons_succ,List.take_zero,List.drop_succ_cons,List.drop_zero,List.drop_nil,List.nil_append,List.append_nil,List.take_succ_cons,ite_true,PH.new_new]
  have hcc := hcc.put (F := fun x => x = ib ∨ x = rb ∨ x = wb) (b := wb) (.inr (.inr rfl)) ⟨[str x1, str x2, .int .i64 x3, .int .i64 x4, .int .i64 x5, .slice none 0 0], 6⟩
  have hi := hi.chg (F := (· = wb)) ((Chg.refl (· = wb) q12).one ⟨[str x1, str x2, .int .i64 x3, .int .i64 x4, .int .i64 x5, .slice none 0 0], 6⟩) (fun e => hnw e.symm)
  have hm : (q12.new wb ⟨[str x1, str x2, .int .i64 x3, .int .i64 x4, .int .i64 x5, .slice none 0 0], 6⟩).m rb = some ⟨[.string ⟨#[]⟩, .string ⟨#[]⟩, .int .i64 0, .int .i64 0, .int .i64 0, .slice none 0 0], 6⟩ := by rw [PH.new_m, if_neg hrw]; exact hm
  have hw : (q12.new wb ⟨[str x1, str x2, .int .i64 x3, .int .i64 x4, .int .i64 x5, .slice none 0 0], 6⟩).m wb = some ⟨[str x1, str x2, .int .i64 x3, .int .i64 x4, .int .i64 x5, .slice none 0 0], 6⟩ := by rw [PH.new_m, if_pos rfl]
  have hibl : ib < (q12.new wb ⟨[str x1, str x2, .int .i64 x3, .int .i64 x4, .int .i64 x5, .slice none 0 0], 6⟩).top := by simp only [PH.new_top]; omega
  generalize q12.new wb ⟨[str x1, str x2, .int .i64 x3, .int .i64 x4, .int .i64 x5, .slice none 0 0], 6⟩ = q13 at *
  refine (rvec_any w0 _ ib s hs _ hi).mono ?_
  rintro v q14 ⟨A, cap, rfl, how, hi⟩
  obtain ⟨⟨x6, s6⟩, e6⟩ : ∃ p, p = vecS s.length s5 := ⟨_, rfl⟩
  rw [← e6] at hi how
  rw [← e6]
  simp only at hi how
  have hc := how.chg
  obtain ⟨_, _, hA, hcap⟩ := how.own.len
  injection hA with hA1 hA2 hA3
  subst hA1; subst hA3
  have hnA : ∀ a, A = some a → a.block ≠ ib ∧ a.block ≠ rb ∧ a.block ≠ wb := fun a ea => by
    have h5 := how.new _ (how.own.A a ea)
    have h6 := hibl
    have h7 := q13.lt _ _ hm
    have h8 := q13.lt _ _ hw
    refine ⟨?_, ?_, ?_⟩ <;> omega
  have hrv : Rv w0 q14 A (ints x6) := how.rv
  have hm := hc.m _ _ hm hne
  have hw := hc.m _ _ hw hnw
  have hcc := hcc.trans (hc.mono (G := fun x => x = ib ∨ x = rb ∨ x = wb) fun x _ e => .inl e)
  have hibl := Nat.lt_of_lt_of_le hibl hc.top
  simp -dsimp -implicitDefEqProofs (disch := first | omega | assumption | (simp only [Option.isSome_some,Qt0]; done) | (simp only [List.length_cons,List.length_nil,List.length_append,Int.toNat_natCast] <;> omega)) only [Nat.reduceLT,Nat.reduceLeDiff,Nat.reduceEqDiff,↓reduceIte,Int.reduceLT,Int.reduceLE,Int.reduceToNat,Int.reduceEq,Int.reduceNe,Nat.reduceAdd,Int.reduceAdd,Int.reduceSub,Int.reduceMul,Nat.reduceMul,Qp0,Ql0,Qe0,rd_M,rdM_some,hm,hw,List.set_cons_zero,List.set_cons_succ,List.take_zero,List.drop_succ_cons,List.drop_zero,List.drop_nil,List.nil_append,List.append_nil,List.take_succ_cons,ite_true,PH.new_new]
  have hcc := hcc.put (F := fun x => x = ib ∨ x = rb ∨ x = wb) (b := wb) (.inr (.inr rfl)) ⟨[str x1, str x2, .int .i64 x3, .int .i64 x4, .int .i64 x5, .slice A x6.length cap], 6⟩
  have hi := hi.chg (F := (· = wb)) ((Chg.refl (· = wb) q14).one ⟨[str x1, str x2, .int .i64 x3, .int .i64 x4, .int .i64 x5, .slice A x6.length cap], 6⟩) (fun e => hnw e.symm)
  have hrv := hrv.chg (F := (· = wb)) ((Chg.refl (· = wb) q14).one ⟨[str x1, str x2, .int .i64 x3, .int .i64 x4, .int .i64 x5, .slice A x6.length cap], 6⟩) (fun a ea e => (hnA a ea).2.2 e)
  have hm : (q14.new wb ⟨[str x1, str x2, .int .i64 x3, .int .i64 x4, .int .i64 x5, .slice A x6.length cap], 6⟩).m rb = some ⟨[.string ⟨#[]⟩, .string ⟨#[]⟩, .int .i64 0, .int .i64 0, .int .i64 0, .slice none 0 0], 6⟩ := by rw [PH.new_m, if_neg hrw]; exact hm
  have hw : (q14.new wb ⟨[str x1, str x2, .int .i64 x3, .int .i64 x4, .int .i64 x5, .slice A x6.length cap], 6⟩).m wb = some ⟨[str x1, str x2, .int .i64 x3, .int .i64 x4, .int .i64 x5, .slice A x6.length cap], 6⟩ := by rw [PH.new_m, if_pos rfl]
  have hibl : ib < (q14.new wb ⟨[str x1, str x2, .int .i64 x3, .int .i64 x4, .int .i64 x5, .slice A x6.length cap], 6⟩).top := by simp only [PH.new_top]; omega
  generalize q14.new wb ⟨[str x1, str x2, .int .i64 x3, .int .i64 x4, .int .i64 x5, .slice A x6.length cap], 6⟩ = q15 at *
  have hch : ChC 4611686018427387903 4611686018427387903 4611686018427387903 s.length s x1 x2 x3 x4 x5 x6 s1 s2 s3 s4 s5 s6 := ⟨e1, e2, e3, e4, e5, e6⟩
  have hC0 : rdN w0 q15 ⟨wb, 0, none⟩ 6 = some [str x1, str x2, .int .i64 x3, .int .i64 x4, .int .i64 x5, .slice A x6.length cap] := by unfold rdN; simp only [hw]; rfl
  have hz := allOne_of [.string ⟨#[]⟩, .string ⟨#[]⟩, .int .i64 0, .int .i64 0, .int .i64 0, .slice none 0 0] rfl
  have ha2 := allOne_of [str x1, str x2, .int .i64 x3, .int .i64 x4, .int .i64 x5, .slice A x6.length cap] rfl
  have hleq : PH.Le h q15 := ⟨Nat.le_trans hle2.top hcc.top, fun x k e => hcc.m x k (hle2.m x k e) (fun e' => by have := h.lt _ _ e; rcases e' with e' | e' | e' <;> omega)⟩
  refine (rfault_any w0 q15 ib s _ hi).mono ?_
  rintro v qf ⟨rfl, hzz⟩
  obtain rfl := hzz.symm
  have hR := rrightC_any w0 q15 ⟨x1, x2, x3, x4, x5, x6⟩ A cap hrv hcap (by have := vecS_len e6; simp only; omega)
  unfold clL at hR
  simp only at hR
  by_cases hok : s6 = .ok []
  · have hf : decide (St.fault s.length s6 ≥ 0) = false := by rw [hok]; rfl
    have hs0 := hch.back hok
    cases hr : rightC ⟨x1, x2, x3, x4, x5, x6⟩ with
    | true =>
      rw [hr] at hR
      have hR := Lib.hid hR
      simp -dsimp -implicitDefEqProofs (disch := first | omega | assumption | (simp only [Option.isSome_some,Qt0]; done) | (simp only [List.length_cons,List.length_nil,List.length_append,Int.toNat_natCast] <;> omega)) only [Nat.reduceLT,Nat.reduceLeDiff,Nat.reduceEqDiff,↓reduceIte,Int.reduceLT,Int.reduceLE,Int.reduceToNat,Int.reduceEq,Int.reduceNe,Nat.reduceAdd,Int.reduceAdd,Int.reduceSub,Int.reduceMul,Nat.reduceMul,Qp0,Ql0,Qe0,hf,hC0]
      refine hR.out.mono ?_
      rintro v hq ⟨rfl, hz⟩
      obtain rfl := hz.symm
      simp -dsimp -implicitDefEqProofs (disch := first | omega | assumption | (simp only [Option.isSome_some,Qt0]; done) | (simp only [List.length_cons,List.length_nil,List.length_append,Int.toNat_natCast] <;> omega)) only [Nat.reduceLT,Nat.reduceLeDiff,Nat.reduceEqDiff,↓reduceIte,Int.reduceLT,Int.reduceLE,Int.reduceToNat,Int.reduceEq,Int.reduceNe,Nat.reduceAdd,Int.reduceAdd,Int.reduceSub,Int.reduceMul,Nat.reduceMul,Qp0,Ql0,Qe0,hC0,hm,rdN_new,List.set_cons_zero,List.set_cons_succ,List.take_zero,List.drop_succ_cons,List.drop_zero,List.drop_nil,List.nil_append,List.append_nil,List.take_succ_cons,ite_true,PH.new_new]
      refine ⟨_, PH.Le.refl _, .inl ⟨⟨x1, x2, x3, x4, x5, x6⟩, A, cap, ⟨hr, hs0⟩, rfl, hcap, ?_⟩, hleq.new _ _ hrb⟩
      exact hrv.chg (F := (· = rb)) ((Chg.refl _ _).one _) (fun a ea e => (hnA a ea).2.1 e)
    | false =>
      rw [hr] at hR
      have hR := Lib.hid hR
      simp -dsimp -implicitDefEqProofs (disch := first | omega | assumption | (simp only [Option.isSome_some,Qt0]; done) | (simp only [List.length_cons,List.length_nil,List.length_append,Int.toNat_natCast] <;> omega)) only [Nat.reduceLT,Nat.reduceLeDiff,Nat.reduceEqDiff,↓reduceIte,Int.reduceLT,Int.reduceLE,Int.reduceToNat,Int.reduceEq,Int.reduceNe,Nat.reduceAdd,Int.reduceAdd,Int.reduceSub,Int.reduceMul,Nat.reduceMul,Qp0,Ql0,Qe0,hf,hC0]
      refine hR.out.mono ?_
      rintro v hq ⟨rfl, hz⟩
      obtain rfl := hz.symm
      simp -dsimp -implicitDefEqProofs (disch := first | omega | assumption | (simp only [Option.isSome_some,Qt0]; done) | (simp only [List.length_cons,List.length_nil,List.length_append,Int.toNat_natCast] <;> omega)) only [Nat.reduceLT,Nat.reduceLeDiff,Nat.reduceEqDiff,↓reduceIte,Int.reduceLT,Int.reduceLE,Int.reduceToNat,Int.reduceEq,Int.reduceNe,Nat.reduceAdd,Int.reduceAdd,Int.reduceSub,Int.reduceMul,Nat.reduceMul,Qp0,Ql0,Qe0,hC0,hm,rdN_new,List.set_cons_zero,List.set_cons_succ,List.take_zero,List.drop_succ_cons,List.drop_zero,List.drop_nil,List.nil_append,List.append_nil,List.take_succ_cons,ite_true,PH.new_new]
      refine ⟨_, PH.Le.refl _, .inr ⟨fun d hd => ?_, rfl⟩, hleq.new _ _ hrb⟩
      obtain ⟨h5, _⟩ := hch.fwd (by omega) (by omega) (by omega) hd
      rw [h5] at hd
      rw [hd.1] at hr; cases hr
  · have hf : decide (St.fault s.length s6 ≥ 0) = true := decide_eq_true (by
      cases hl : s6 with
      | bad p => show (0 : Int) ≤ (p : Int); omega
      | ok t =>
        cases t with
        | nil => exact absurd hl hok
        | cons c t => show (0 : Int) ≤ ((s.length - (c :: t).length : Nat) : Int); omega)
    simp -dsimp -implicitDefEqProofs (disch := first | omega | assumption | (simp only [Option.isSome_some,Qt0]; done) | (simp only [List.length_cons,List.length_nil,List.length_append,Int.toNat_natCast] <;> omega)) only [Nat.reduceLT,Nat.reduceLeDiff,Nat.reduceEqDiff,↓reduceIte,Int.reduceLT,Int.reduceLE,Int.reduceToNat,Int.reduceEq,Int.reduceNe,Nat.reduceAdd,Int.reduceAdd,Int.reduceSub,Int.reduceMul,Nat.reduceMul,Qp0,Ql0,Qe0,hf,hC0,hm,rdN_new,List.set_cons_zero,List.set_cons_succ,List.take_zero,List.drop_succ_cons,List.drop_zero,List.drop_nil,List.nil_append,List.append_nil,List.take_succ_cons,ite_true,PH.new_new]
    refine ⟨_, PH.Le.refl _, .inr ⟨fun d hd => ?_, rfl⟩, hleq.new _ _ hrb⟩
    exact hok (hch.fwd (by omega) (by omega) (by omega) hd).2
end Go.Proofs.YtdlaoeepeakpeaaGreat


/- Lemmas on worlds, blocks and rows that every claim of this seat uses: a law that returns true and leaves what was there alone meets its row. No condition. -/
namespace Go.Proofs.YtdlaoeepeakpeaaGreat.Base
set_option linter.unusedVariables false
set_option linter.unusedSimpArgs false
open Go.ChangeShapes Go.WideShapes Go.ChangeAt Go.RowKit Go.Deep

theorem own : ownKnob Tryz.prog.godebug = none := by kernel_rfl
theorem laidOut : laidOutB Tryz.prog = true := by kernel_rfl

/-- Block b is just these cells of type t, none of them frozen. -/
def Blk (w : World) (b : Nat) (t : TypeId) (cs : Array Value) : Prop := w.heap[b]? = some (.cells cs t (0, 0))

section
variable {w w' : World} {b : Nat} {t : TypeId} {cs : Array Value}
theorem Blk.lt (h : Blk w b t cs) : b < w.heap.size := (Array.getElem?_eq_some_iff.1 h).1
theorem Blk.cell (h : Blk w b t cs) (i : Nat) : w.cell? ⟨b, i, none⟩ = cs[i]? := cell_of_row w b i cs t (0, 0) h
theorem Blk.frozen (h : Blk w b t cs) (i : Nat) : w.frozen? ⟨b, i, none⟩ = false := by
  unfold Blk at h
  simp [World.frozen?, h]
theorem Blk.new (w : World) (t : TypeId) (cs : Array Value) : Blk (w.alloc (.cells cs t)) w.heap.size t cs := heap_alloc_new w _
theorem Blk.drew (h : Blk w b t cs) : Blk w.drew b t cs := h
theorem Blk.alloc (h : Blk w b t cs) (o : Obj) : Blk (w.alloc o) b t cs := (Below.heap_alloc w o b h.lt).trans h
theorem Blk.set_ (h : Blk w b t cs) (i : Nat) (u : Value) : Blk (w.setCell ⟨b, i, none⟩ u) b t (cs.setIfInBounds i u) := by
  unfold Blk at h ⊢
  simp [World.setCell, Array.getElem?_modify, h]
theorem Blk.below {B : Nat} (h : Blk w b t cs) (hb : Below B w w') (hlt : b < B) : Blk w' b t cs := (hb.block b hlt).trans h
theorem Blk.on (h : Blk w b t cs) (hb : Below w.heap.size w w') : Blk w' b t cs := h.below hb h.lt
theorem Blk.grown {row : Option Nat} (h : Blk w b t cs) (hb : w.grownBy w' row) (hne : some b ≠ row) : Blk w' b t cs := (hb.block b h.lt hne).trans h
end

/-- The arguments read behind the call as before it. -/
theorem args_keep {H : Type} {enc : TypeId × Value → H} {P : Program} (hl : laidOutB P = true) {W W' : World} (hb : Below W.heap.size W W') :
    ∀ {ts : List TypeId} {vs : List Value} {ds : List (DataW H)} {ps : List MemPlace}, (∀ t ∈ ts, P.readableRec t = true ∧ t < P.types.size) → (∀ x ∈ ps, x.block < W.heap.size) →
      DataW.TrodAll enc P W 0 (fun _ => true) true ts vs ds ps → DataW.TrodAll enc P W' 0 (fun b => decide (b < W.heap.size)) true ts vs ds ps
  | [], _, _, _, _, _, h => by
    obtain ⟨rfl, rfl, rfl⟩ := trodAll_nil h
    exact trodAll_mk0
  | t :: ts, _, _, _, hts, hlt, h => by
    obtain ⟨v, vs', d, ds', p, p', rfl, rfl, rfl, h0, h1⟩ := trodAll_cons h
    have ht := hts t List.mem_cons_self
    exact trodAll_cons_mk (Below.trod hl ht.1 ht.2 h0 hb fun x hx => hlt x (List.mem_append_left _ hx))
      (args_keep hl hb (fun t' ht' => hts t' (List.mem_cons_of_mem _ ht')) (fun x hx => hlt x (List.mem_append_right _ hx)) h1)

/-- A law that returns true, over a world of which nothing old has turned, meets what its row asks at the end. -/
theorem law_post {H : Type} {enc : TypeId × Value → H} {P : Program} (hl : laidOutB P = true) {fn : Func} {s : ChangeSpec} {W W' : World} {args : Array Value} {ds gs : List (DataW H)} {before : List MemPlace} {tb : TypeId}
    (hW : DataW.Whole enc P fn.params.toList s.vars false W args.toList ds gs before)
    (hres : (s.fn H (ds ++ gs)).results = [.lit (.bool true)]) (hargs : (s.fn H (ds ++ gs)).args = ds) (hvars : (s.fn H (ds ++ gs)).vars = gs)
    (hrt : fn.resultTypes = #[tb]) (htb : P.underlying tb = some .bool) (hts : ∀ t ∈ fn.params.toList, P.readableRec t = true ∧ t < P.types.size) (hvr : varsRowed P s.vars = true)
    (hb : Below W.heap.size W W') : s.post enc P fn false true false false W args (.bool true) W' := by
  have hW' := hW
  obtain ⟨p, q, hA, hV, rfl, _, _⟩ := hW
  have hlt : ∀ x ∈ p ++ q, x.block < W.heap.size := fun x hx => by simpa using hW'.lt x hx
  refine ⟨ds, gs, p ++ q, [], p, q, hW', ?_, ?_, ?_, hb.frame _, fun h => by cases h⟩
  · rw [hres, hrt]
    exact trodAll_mk1 (shut_bool htb _)
  · rw [hargs]
    exact args_keep hl hb hts (fun x hx => hlt x (List.mem_append_left _ hx)) hA
  · rw [hvars]
    exact Below.trodVars hl hb hvr hV

/-- A slice at A of n elements reads as these cells ('size' cells an element), which lie below block B. -/
def Rd (w : World) (B size : Nat) (A : Option Addr) (n : Nat) (xs : List Value) : Prop :=
  xs.length = n * size ∧ (0 < n → ∃ b o, A = some ⟨b, o, none⟩ ∧ b < B ∧ ∀ j u, xs[j]? = some u → w.cell? ⟨b, o + j, none⟩ = some u)

section
variable {w w' : World} {B B' size n : Nat} {A : Option Addr} {xs : List Value}
theorem Rd.keep (h : Rd w B size A n xs) (hk : ∀ p : Addr, p.block < B → w'.cell? p = w.cell? p) : Rd w' B size A n xs :=
  ⟨h.1, fun hn => by
    obtain ⟨b, o, e, hb, hc⟩ := h.2 hn
    exact ⟨b, o, e, hb, fun j u hu => (hk _ hb).trans (hc j u hu)⟩⟩
theorem Rd.on (h : Rd w B size A n xs) (hb : Below B w w') : Rd w' B size A n xs := h.keep fun _ hp => hb.cell hp
theorem Rd.more (h : Rd w B size A n xs) (hB : B ≤ B') : Rd w B' size A n xs :=
  ⟨h.1, fun hn => by
    obtain ⟨b, o, e, hb, hc⟩ := h.2 hn
    exact ⟨b, o, e, by omega, hc⟩⟩
theorem Rd.next (h : Rd w w.heap.size size A n xs) (hb : Below w.heap.size w w') : Rd w' w'.heap.size size A n xs := (h.on hb).more hb.size
theorem Rd.drew (h : Rd w B size A n xs) : Rd w.drew B size A n xs := h
theorem Rd.alloc (h : Rd w B size A n xs) (hB : B ≤ w.heap.size) (o : Obj) : Rd (w.alloc o) B size A n xs := h.keep fun p hp => World.cell?_alloc_lt w o p (by omega)
end

/-- Cells in a block of their own read as a slice. -/
theorem Rd.blk {w : World} {b : Nat} {t : TypeId} {l : List Value} {size m : Nat} (h : Blk w b t l.toArray) (hm : l.length = m * size) : Rd w w.heap.size size (some ⟨b, 0, none⟩) m l :=
  ⟨hm, fun _ => ⟨b, 0, rfl, h.lt, fun j u hu => by rw [h.cell, Nat.zero_add]; simpa using hu⟩⟩

theorem Rd.new (w : World) (t : TypeId) (l : List Value) {b size m : Nat} (hb : b = w.heap.size) (hm : l.length = m * size) : Rd (w.alloc (.cells l.toArray t)) (w.alloc (.cells l.toArray t)).heap.size size (some ⟨b, 0, none⟩) m l := by
  subst hb
  exact Rd.blk (Blk.new _ _ _) hm

/-- 'x[k:]' of a slice whose elements are one cell. -/
theorem Rd.cut1 {w : World} {B b o m k c : Nat} {xs : List Value} (h : Rd w B 1 (some ⟨b, o, none⟩) m xs) (hk : k ≤ m) (hc : m ≤ c) :
    Rd w B 1 (if c = k then some ⟨b, o, none⟩ else some ⟨b, o + k, none⟩) (m - k) (xs.drop k) := by
  refine ⟨by rw [List.length_drop, h.1]; omega, fun hn => ?_⟩
  obtain ⟨b', o', e, hb, hcell⟩ := h.2 (by omega)
  injection e with e
  injection e with e1 e2
  subst e1 e2
  rw [if_neg (by omega)]
  refine ⟨b, o + k, rfl, hb, fun j u hu => ?_⟩
  rw [Nat.add_assoc]
  exact hcell _ u (by rw [← hu, List.getElem?_drop])

/-- A slice's length. -/
def lenOf : Value → Nat
  | .slice _ n _ => n
  | _ => 0

section
variable {P : Program} {w : World}
end

theorem ints_one (k : IntKind) (zs : List Int) : ∀ u ∈ zs.map (Value.int k), u.oneCell' = true := ints_oneCell k zs

section
variable {H : Type} {enc : TypeId × Value → H} {P : Program} {W : World} {b0 : Nat} {r : Reach} {t e : TypeId} {v : Value} {d : DataW H} {p : List MemPlace}

end

/-- Of what was there block p alone may have turned. -/
def Only (p : Nat) (w w' : World) : Prop := w.grownBy w' (some p)
section
variable {p : Nat} {w w' w'' : World}
theorem Only.refl (p : Nat) (w : World) : Only p w w := World.grownBy.refl w _
theorem Only.trans (h : Only p w w') (k : Only p w' w'') : Only p w w'' :=
  ⟨k.os.trans h.os, k.tape.trans h.tape, k.output.trans h.output, Nat.le_trans h.size k.size, fun j hj hne => (k.block j (Nat.lt_of_lt_of_le hj h.size) hne).trans (h.block j hj hne)⟩
theorem Only.setCell (w : World) (p i : Nat) (u : Value) : Only p w (w.setCell ⟨p, i, none⟩ u) :=
  ⟨rfl, rfl, rfl, by simp [World.setCell], fun k _ hk => Below.heap_setCell _ _ _ _ (by intro e; exact hk (by rw [e]))⟩
theorem Only.below {B : Nat} {W0 : World} (h : Only p w w') (hb : Below B W0 w) (hB : B ≤ p) (hs : B ≤ w.heap.size) : Below B W0 w' :=
  hb.grown h hs fun k hk => by injection hk with hk; omega
theorem Blk.only {b : Nat} {t : TypeId} {cs : Array Value} (h : Blk w b t cs) (ho : Only p w w') (hne : b ≠ p) : Blk w' b t cs := h.grown ho (by intro e; injection e with e; exact hne e)
end
end Go.Proofs.YtdlaoeepeakpeaaGreat.Base


/- Arguments that are lists of texts: what is read of them. No condition. -/
namespace Go.Proofs.YtdlaoeepeakpeaaGreat
set_option linter.unusedVariables false
set_option linter.unusedSimpArgs false
open Go.ChangeShapes Go.WideShapes Go.ChangeAt Go.RowKit Base Px
theorem rd_param {w : World} {sz n b o : Nat} {xs : List Value} (hr : Rd w w.heap.size sz (some ⟨b, o, none⟩) n xs) (hn : 0 < n) : b < w.heap.size ∧ ∀ j u, xs[j]? = some u → rdM w none b (o + j) = some u := by
  obtain ⟨b', o', e, hb, hc⟩ := hr.2 hn
  have e := Option.some.inj e
  injection e with e1 e2 e3
  subst e1; subst e2
  exact ⟨hb, fun j u hj => by unfold rdM; simp only; rw [if_pos hb]; exact hc j u hj⟩
theorem rd_param_addr {w : World} {sz n : Nat} {A : Option Addr} {xs : List Value} (hr : Rd w w.heap.size sz A n xs) (hn : 0 < n) : ∃ b o, A = some ⟨b, o, none⟩ := by
  obtain ⟨b, o, h, _⟩ := hr.2 hn; exact ⟨b, o, h⟩
end Go.Proofs.YtdlaoeepeakpeaaGreat


/- Arguments that are lists of structs: one Lean value for each. No condition. -/
namespace Go.Proofs.YtdlaoeepeakpeaaGreat
set_option linter.unusedVariables false
set_option linter.unusedSimpArgs false
open Go.ChangeShapes Go.WideShapes Go.ChangeAt Go.RowKit Go.Deep Base Px
/-- What came in, as cells that are read. -/
theorem Rd.rv {w : World} {n : Nat} {A : Option Addr} {xs : List Value} (hr : Rd w w.heap.size 1 A n xs) (h : PH) : ∀ (j : Nat) (u : Value), xs[j]? = some u → ∃ b o, A = some ⟨b, o, none⟩ ∧ b < w.heap.size ∧ rdM w none b (o + j) = some u := fun j u e => by
  have hn : 0 < n := by
    have h1 := (List.getElem?_eq_some_iff.1 e).1
    have h2 := hr.1
    omega
  obtain ⟨b, o, rfl⟩ := rd_param_addr hr hn
  obtain ⟨hb, hrd⟩ := rd_param hr hn
  exact ⟨b, o, rfl, hb, hrd j u e⟩
end Go.Proofs.YtdlaoeepeakpeaaGreat


/- Walks of the reference's ring. -/
namespace Go.Proofs.YtdlaoeepeakpeaaGreat
set_option linter.unusedVariables false
set_option linter.unusedSimpArgs false
open Go.RowKit Px
set_option maxRecDepth 20000 in
theorem ralive_any (c n : Int) (hc : 0 ≤ c ∧ c ≤ 1099511627776) (w0 : World) (h : PH) : PCalls Tryz.prog w0 17 [.int .i64 c, .int .i64 n] h fun v h' => v = .bool (decide (alive c n)) ∧ h' = h := by
  refine PCalls_body Tryz.func17 (by kernel_rfl) rfl _ Tryz.ntmps17 (by kernel_rfl) (by kernel_rfl) _ Tryz.results17 ?_
  by_cases h1 : 0 ≤ n
  rotate_left
  · have e1 := decide_eq_false h1
    have hr : decide (alive c n) = false := decide_eq_false (by unfold alive; omega)
    simp -dsimp -implicitDefEqProofs (disch := first | omega | assumption | (simp only [Option.isSome_some,Qt0]; done) | (simp only [List.length_cons,List.length_nil,List.length_append,Int.toNat_natCast] <;> omega)) only [Nat.reduceLT,Nat.reduceLeDiff,Nat.reduceEqDiff,↓reduceIte,Int.reduceLT,Int.reduceLE,Int.reduceToNat,Int.reduceEq,Int.reduceNe,Nat.reduceAdd,Int.reduceAdd,Int.reduceSub,Int.reduceMul,Nat.reduceMul,Qp0,Ql0,Qe0,e1,hr]
    exact ⟨_, PH.Le.refl _, by trivial, rfl⟩
  have e1 := decide_eq_true h1
  by_cases h2 : n ≤ 1099511627776
  rotate_left
  · have e2 := decide_eq_false h2
    have hr : decide (alive c n) = false := decide_eq_false (by unfold alive; omega)
    simp -dsimp -implicitDefEqProofs (disch := first | omega | assumption | (simp only [Option.isSome_some,Qt0]; done) | (simp only [List.length_cons,List.length_nil,List.length_append,Int.toNat_natCast] <;> omega)) only [Nat.reduceLT,Nat.reduceLeDiff,Nat.reduceEqDiff,↓reduceIte,Int.reduceLT,Int.reduceLE,Int.reduceToNat,Int.reduceEq,Int.reduceNe,Nat.reduceAdd,Int.reduceAdd,Int.reduceSub,Int.reduceMul,Nat.reduceMul,Qp0,Ql0,Qe0,e1,e2,hr]
    exact ⟨_, PH.Le.refl _, by trivial, rfl⟩
  have e2 := decide_eq_true h2
  have hr : decide (alive c n) = decide (c - 2 ≤ n) := by
    by_cases h4 : c - 2 ≤ n
    · rw [decide_eq_true h4]; exact decide_eq_true (by unfold alive; omega)
    · rw [decide_eq_false h4]; exact decide_eq_false (by unfold alive; omega)
  simp -dsimp -implicitDefEqProofs (disch := first | omega | assumption | (simp only [Option.isSome_some,Qt0]; done) | (simp only [List.length_cons,List.length_nil,List.length_append,Int.toNat_natCast] <;> omega)) only [Nat.reduceLT,Nat.reduceLeDiff,Nat.reduceEqDiff,↓reduceIte,Int.reduceLT,Int.reduceLE,Int.reduceToNat,Int.reduceEq,Int.reduceNe,Nat.reduceAdd,Int.reduceAdd,Int.reduceSub,Int.reduceMul,Nat.reduceMul,Qp0,Ql0,Qe0,e1,e2,hr]
  exact ⟨_, PH.Le.refl _, by trivial, rfl⟩
end Go.Proofs.YtdlaoeepeakpeaaGreat


/- Walk of the reference's Read of tokens. No condition. -/
namespace Go.Proofs.YtdlaoeepeakpeaaGreat
set_option linter.unusedVariables false
set_option linter.unusedSimpArgs false
open Go.RowKit Px Wr
theorem cut1_dot {s : List UInt8} {k : Nat} (h : s[k]? = some 46) (hn : ∀ j, j < k → s[j]? ≠ some 46) : cut1 s = some (s.take k, s.drop (k + 1)) := by
  have hk : k < s.length := by
    rcases Nat.lt_or_ge k s.length with h1 | h1
    · exact h1
    · rw [List.getElem?_eq_none h1] at h; cases h
  have e : s = s.take k ++ 46 :: s.drop (k + 1) := by
    have h1 : s[k] = 46 := by rw [List.getElem?_eq_getElem hk] at h; injection h
    rw [← h1, ← List.drop_eq_getElem_cons hk, List.take_append_drop]
  have := cut1_at (s.take k) (s.drop (k + 1)) (fun c hc e2 => by
    obtain ⟨j, hj⟩ := List.mem_iff_getElem?.1 hc
    rw [List.getElem?_take] at hj
    split at hj
    · rename_i hlt
      exact hn j hlt (by rw [hj, e2])
    · cases hj)
  rw [← e] at this
  exact this
theorem no_dot {s : List UInt8} (hn : ∀ j, j < s.length → s[j]? ≠ some 46) {al : Int → Prop} {key : Int → List UInt8} : ∀ c, ¬ IsT al key s c := fun c hc => by
  have e := hc.2.2
  have hm : (46 : UInt8) ∈ s := by rw [e]; unfold tok; simp
  obtain ⟨j, hj⟩ := List.mem_iff_getElem?.1 hm
  have hlt : j < s.length := by
    rcases Nat.lt_or_ge j s.length with h1 | h1
    · exact h1
    · rw [List.getElem?_eq_none h1] at hj; cases hj
  exact hn j hlt hj
/-- What the reference's Read tells. -/
def RRD (w0 : World) (h' : PH) (al : Int → Prop) (key : Int → List UInt8) (s : List UInt8) (v : Value) : Prop :=
  (∃ c A cap, IsT al key s c ∧ v = .tuple #[.agg (clL c A cap).toArray, .bool true] ∧ c.x.length ≤ cap ∧ Rv w0 h' A (ints c.x)) ∨ ((∀ c, ¬ IsT al key s c) ∧ v = .tuple #[.agg (clL clZ none 0).toArray, .bool false])
theorem isT_dec {al : Int → Prop} {key : Int → List UInt8} {s a b : List UInt8} {c : Cl} (hc : cut1 s = some (a, b)) (h : IsT al key s c) : ∃ x, decR a = .inl x ∧ IsC x c := by
  obtain ⟨h1, h2, _, h4, _⟩ := isT_cut h
  rw [hc] at h1
  injection h1 with h1
  injection h1 with h1 _
  rw [h1]
  exact ⟨_, h2, h4⟩
set_option maxRecDepth 20000 in
set_option maxHeartbeats 4000000 in
theorem rRead_any (M : List UInt8) (hm0 : M.length ≤ 900000) (cur : Int) (hcur : 0 ≤ cur ∧ cur ≤ 1099511627776) (s : List UInt8) (hs : s.length ≤ 5000) (w0 : World) (h : PH) : PCalls Tryz.prog w0 7 [str M, .int .i64 cur, str s] h fun v h' => RRD w0 h' (alive cur) (derive M) s v ∧ PH.Le h h' := by
  refine PCalls_body Tryz.func7 (by kernel_rfl) rfl _ Tryz.ntmps7 (by kernel_rfl) (by kernel_rfl) _ Tryz.results7 ?_
  simp -dsimp -implicitDefEqProofs (disch := first | omega | assumption | (simp only [Option.isSome_some,Qt0]; done) | (simp only [UInt64.reduceToNat,UInt32.reduceToNat,UInt8.reduceToNat,List.length_cons,List.length_nil,List.length_append,Int.toNat_natCast] <;> omega)) only [Nat.reduceLT,Nat.reduceLeDiff,Nat.reduceEqDiff,↓reduceIte,Int.reduceLT,Int.reduceLE,Int.reduceToNat,Int.reduceEq,Int.reduceNe,Nat.reduceAdd,UInt8.reduceOfNat,UInt16.reduceOfNat,UInt32.reduceOfNat,UInt64.reduceOfNat,UInt64.reduceToNat,UInt32.reduceToNat,UInt16.reduceToNat,UInt8.reduceToNat,Int.reduceAdd,Int.reduceSub,Int.reduceMul,Nat.reduceMul,Qp0,Ql0,Qe0]
  refine fun rb hrb => ?_
  have hle := (PH.Le.refl h).new rb ⟨[.string ⟨#[]⟩, .string ⟨#[]⟩, .int .i64 0, .int .i64 0, .int .i64 0, .slice none 0 0], 6⟩ hrb
  have hm : (h.new rb ⟨[.string ⟨#[]⟩, .string ⟨#[]⟩, .int .i64 0, .int .i64 0, .int .i64 0, .slice none 0 0], 6⟩).m rb = some ⟨[.string ⟨#[]⟩, .string ⟨#[]⟩, .int .i64 0, .int .i64 0, .int .i64 0, .slice none 0 0], 6⟩ := by rw [PH.new_m, if_pos rfl]
  have hz := allOne_of [.string ⟨#[]⟩, .string ⟨#[]⟩, .int .i64 0, .int .i64 0, .int .i64 0, .slice none 0 0] rfl
  have hrb0 : h.top ≤ rb := hrb
  simp -dsimp -implicitDefEqProofs (disch := first | omega | assumption | (simp only [Option.isSome_some,Qt0]; done) | (simp only [UInt64.reduceToNat,UInt32.reduceToNat,UInt8.reduceToNat,List.length_cons,List.length_nil,List.length_append,Int.toNat_natCast] <;> omega)) only [Nat.reduceLT,Nat.reduceLeDiff,Nat.reduceEqDiff,↓reduceIte,Int.reduceLT,Int.reduceLE,Int.reduceToNat,Int.reduceEq,Int.reduceNe,Nat.reduceAdd,UInt8.reduceOfNat,UInt16.reduceOfNat,UInt32.reduceOfNat,UInt64.reduceOfNat,UInt64.reduceToNat,UInt32.reduceToNat,UInt16.reduceToNat,UInt8.reduceToNat,Int.reduceAdd,Int.reduceSub,Int.reduceMul,Nat.reduceMul,Qp0,Ql0,Qe0]
  generalize h.new rb ⟨[.string ⟨#[]⟩, .string ⟨#[]⟩, .int .i64 0, .int .i64 0, .int .i64 0, .slice none 0 0], 6⟩ = h1 at *
  refine PW_loop (fun n f h' => ∃ k : Nat, k + n = s.length ∧ f 0 = some (str M) ∧ f 1 = some (.int .i64 cur) ∧ f 2 = some (str s) ∧ f 6 = some (.pointer (some ⟨rb, 0, none⟩)) ∧ f 8 = some (.int .i64 k) ∧ (∀ j, j < k → s[j]? ≠ some 46) ∧ h' = h1) (by kernel_rfl) s.length ⟨0, by omega, ?_, ?_, ?_, ?_, ?_, fun j hj => absurd hj (by omega), rfl⟩ ?_
  · simp -dsimp -implicitDefEqProofs (disch := first | omega | assumption | (simp only [Option.isSome_some,Qt0]; done) | (simp only [UInt64.reduceToNat,UInt32.reduceToNat,UInt8.reduceToNat,List.length_cons,List.length_nil,List.length_append,Int.toNat_natCast] <;> omega)) only [Nat.reduceLT,Nat.reduceLeDiff,Nat.reduceEqDiff,↓reduceIte,Int.reduceLT,Int.reduceLE,Int.reduceToNat,Int.reduceEq,Int.reduceNe,Nat.reduceAdd,UInt8.reduceOfNat,UInt16.reduceOfNat,UInt32.reduceOfNat,UInt64.reduceOfNat,UInt64.reduceToNat,UInt32.reduceToNat,UInt16.reduceToNat,UInt8.reduceToNat,Int.reduceAdd,Int.reduceSub,Int.reduceMul,Nat.reduceMul,Qp0,Ql0,Qe0]
  · simp -dsimp -implicitDefEqProofs (disch := first | omega | assumption | (simp only [Option.isSome_some,Qt0]; done) | (simp only [UInt64.reduceToNat,UInt32.reduceToNat,UInt8.reduceToNat,List.length_cons,List.length_nil,List.length_append,Int.toNat_natCast] <;> omega)) only [Nat.reduceLT,Nat.reduceLeDiff,Nat.reduceEqDiff,↓reduceIte,Int.reduceLT,Int.reduceLE,Int.reduceToNat,Int.reduceEq,Int.reduceNe,Nat.reduceAdd,UInt8.reduceOfNat,UInt16.reduceOfNat,UInt32.reduceOfNat,UInt64.reduceOfNat,UInt64.reduceToNat,UInt32.reduceToNat,UInt16.reduceToNat,UInt8.reduceToNat,Int.reduceAdd,Int.reduceSub,Int.reduceMul,Nat.reduceMul,Qp0,Ql0,Qe0]
  · simp -dsimp -implicitDefEqProofs (disch := first | omega | assumption | (simp only [Option.isSome_some,Qt0]; done) | (simp only [UInt64.reduceToNat,UInt32.reduceToNat,UInt8.reduceToNat,List.length_cons,List.length_nil,List.length_append,Int.toNat_natCast] <;> omega)) only [Nat.reduceLT,Nat.reduceLeDiff,Nat.reduceEqDiff,↓reduceIte,Int.reduceLT,Int.reduceLE,Int.reduceToNat,Int.reduceEq,Int.reduceNe,Nat.reduceAdd,UInt8.reduceOfNat,UInt16.reduceOfNat,UInt32.reduceOfNat,UInt64.reduceOfNat,UInt64.reduceToNat,UInt32.reduceToNat,UInt16.reduceToNat,UInt8.reduceToNat,Int.reduceAdd,Int.reduceSub,Int.reduceMul,Nat.reduceMul,Qp0,Ql0,Qe0]
  · simp -dsimp -implicitDefEqProofs (disch := first | omega | assumption | (simp only [Option.isSome_some,Qt0]; done) | (simp only [UInt64.reduceToNat,UInt32.reduceToNat,UInt8.reduceToNat,List.length_cons,List.length_nil,List.length_append,Int.toNat_natCast] <;> omega)) only [Nat.reduceLT,Nat.reduceLeDiff,Nat.reduceEqDiff,↓reduceIte,Int.reduceLT,Int.reduceLE,Int.reduceToNat,Int.reduceEq,Int.reduceNe,Nat.reduceAdd,UInt8.reduceOfNat,UInt16.reduceOfNat,UInt32.reduceOfNat,UInt64.reduceOfNat,UInt64.reduceToNat,UInt32.reduceToNat,UInt16.reduceToNat,UInt8.reduceToNat,Int.reduceAdd,Int.reduceSub,Int.reduceMul,Nat.reduceMul,Qp0,Ql0,Qe0]
  · simp -dsimp -implicitDefEqProofs (disch := first | omega | assumption | (simp only [Option.isSome_some,Qt0]; done) | (simp only [UInt64.reduceToNat,UInt32.reduceToNat,UInt8.reduceToNat,List.length_cons,List.length_nil,List.length_append,Int.toNat_natCast] <;> omega)) only [Nat.reduceLT,Nat.reduceLeDiff,Nat.reduceEqDiff,↓reduceIte,Int.reduceLT,Int.reduceLE,Int.reduceToNat,Int.reduceEq,Int.reduceNe,Nat.reduceAdd,UInt8.reduceOfNat,UInt16.reduceOfNat,UInt32.reduceOfNat,UInt64.reduceOfNat,UInt64.reduceToNat,UInt32.reduceToNat,UInt16.reduceToNat,UInt8.reduceToNat,Int.reduceAdd,Int.reduceSub,Int.reduceMul,Nat.reduceMul,Qp0,Ql0,Qe0]
    try rfl
  rintro n f h' ⟨k, hkn, f0, f1, f2, f6, f8, hne, rfl⟩
  by_cases hlt : k < s.length
  rotate_left
  · obtain rfl : k = s.length := by omega
    have e1 : decide ((s.length : Int) < (s.length : Int)) = false := decide_eq_false (by omega)
    simp -dsimp -implicitDefEqProofs (disch := first | omega | assumption | (simp only [Option.isSome_some,Qt0]; done) | (simp only [UInt64.reduceToNat,UInt32.reduceToNat,UInt8.reduceToNat,List.length_cons,List.length_nil,List.length_append,Int.toNat_natCast] <;> omega)) only [Nat.reduceLT,Nat.reduceLeDiff,Nat.reduceEqDiff,↓reduceIte,Int.reduceLT,Int.reduceLE,Int.reduceToNat,Int.reduceEq,Int.reduceNe,Nat.reduceAdd,UInt8.reduceOfNat,UInt16.reduceOfNat,UInt32.reduceOfNat,UInt64.reduceOfNat,UInt64.reduceToNat,UInt32.reduceToNat,UInt16.reduceToNat,UInt8.reduceToNat,Int.reduceAdd,Int.reduceSub,Int.reduceMul,Nat.reduceMul,Qp0,Ql0,Qe0,f0,f1,f2,f6,f8,e1,hm,hz,List.take_zero,List.drop_succ_cons,List.drop_zero,List.drop_nil,List.nil_append,List.append_nil,rdN_new,List.take_succ_cons,ite_true]
    exact ⟨_, PH.Le.refl _, .inr ⟨no_dot hne, rfl⟩, hle.new _ _ hrb0⟩
  have e1 : decide ((k : Int) < (s.length : Int)) = true := decide_eq_true (by omega)
  obtain ⟨x, hx⟩ : ∃ x, s.getD k 0 = x := ⟨_, rfl⟩
  have hx' : s[k]? = some x := by rw [← hx]; simp [List.getD, List.getElem?_eq_getElem hlt]
  by_cases hd : x = 46
  rotate_left
  · have b1 : decide (¬ x = 46) = true := decide_eq_true hd
    simp -dsimp -implicitDefEqProofs (disch := first | omega | assumption | (simp only [Option.isSome_some,Qt0]; done) | (simp only [UInt64.reduceToNat,UInt32.reduceToNat,UInt8.reduceToNat,List.length_cons,List.length_nil,List.length_append,Int.toNat_natCast] <;> omega)) only [Nat.reduceLT,Nat.reduceLeDiff,Nat.reduceEqDiff,↓reduceIte,Int.reduceLT,Int.reduceLE,Int.reduceToNat,Int.reduceEq,Int.reduceNe,Nat.reduceAdd,UInt8.reduceOfNat,UInt16.reduceOfNat,UInt32.reduceOfNat,UInt64.reduceOfNat,UInt64.reduceToNat,UInt32.reduceToNat,UInt16.reduceToNat,UInt8.reduceToNat,Int.reduceAdd,Int.reduceSub,Int.reduceMul,Nat.reduceMul,Qp0,Ql0,Qe0,f0,f1,f2,f6,f8,e1,hx,b1]
    refine ⟨n - 1, _, by omega, PH.Le.refl _, k + 1, by omega, by simp [f0], by simp [f1], by simp [f2], by simp [f6], by simp, fun j hj => ?_, rfl⟩
    rcases Nat.lt_or_ge j k with h2 | h2
    · exact hne j h2
    · obtain rfl : j = k := by omega
      rw [hx']
      intro e
      injection e with e
      exact hd e
  subst hd
  have b1 : decide (¬ (46 : UInt8) = 46) = false := rfl
  have hc := cut1_dot hx' hne
  have hR := rdec_any (s.take k) w0 h' (by rw [List.length_take]; omega)
  have htl : (s.take k).length ≤ 5000 := by rw [List.length_take]; omega
  obtain ⟨a, hta⟩ : ∃ a, s.take k = a := ⟨_, rfl⟩
  rw [hta] at hc hR htl
  cases hda : decR a with
  | inr e =>
    have hge := decR_ge hda
    rw [hda] at hR
    have hR := Lib.hid hR
    have b2 := decide_eq_true hge
    simp -dsimp -implicitDefEqProofs (disch := first | omega | assumption | (simp only [Option.isSome_some,Qt0]; done) | (simp only [UInt64.reduceToNat,UInt32.reduceToNat,UInt8.reduceToNat,List.length_cons,List.length_nil,List.length_append,Int.toNat_natCast] <;> omega)) only [Nat.reduceLT,Nat.reduceLeDiff,Nat.reduceEqDiff,↓reduceIte,Int.reduceLT,Int.reduceLE,Int.reduceToNat,Int.reduceEq,Int.reduceNe,Nat.reduceAdd,UInt8.reduceOfNat,UInt16.reduceOfNat,UInt32.reduceOfNat,UInt64.reduceOfNat,UInt64.reduceToNat,UInt32.reduceToNat,UInt16.reduceToNat,UInt8.reduceToNat,Int.reduceAdd,Int.reduceSub,Int.reduceMul,Nat.reduceMul,Qp0,Ql0,Qe0,f0,f1,f2,f6,f8,e1,hx,b1,hta]
    refine hR.out.mono ?_
    rintro v hq ⟨rfl, hz⟩
    obtain rfl := hz.symm
    simp -dsimp -implicitDefEqProofs (disch := first | omega | assumption | (simp only [Option.isSome_some,Qt0]; done) | (simp only [UInt64.reduceToNat,UInt32.reduceToNat,UInt8.reduceToNat,List.length_cons,List.length_nil,List.length_append,Int.toNat_natCast] <;> omega)) only [Nat.reduceLT,Nat.reduceLeDiff,Nat.reduceEqDiff,↓reduceIte,Int.reduceLT,Int.reduceLE,Int.reduceToNat,Int.reduceEq,Int.reduceNe,Nat.reduceAdd,UInt8.reduceOfNat,UInt16.reduceOfNat,UInt32.reduceOfNat,UInt64.reduceOfNat,UInt64.reduceToNat,UInt32.reduceToNat,UInt16.reduceToNat,UInt8.reduceToNat,Int.reduceAdd,Int.reduceSub,Int.reduceMul,Nat.reduceMul,Qp0,Ql0,Qe0,f0,f1,f2,f6,f8,b2,hm,hz,List.take_zero,List.drop_succ_cons,List.drop_zero,List.drop_nil,List.nil_append,List.append_nil,rdN_new,List.take_succ_cons,ite_true]
    refine ⟨_, PH.Le.refl _, .inr ⟨fun d hdd => ?_, rfl⟩, hle.new _ _ hrb0⟩
    obtain ⟨y, hy, _⟩ := isT_dec hc hdd
    rw [hda] at hy; cases hy
  | inl body =>
    rw [hda] at hR
    have hR := Lib.hid hR
    have hbo : body.length ≤ a.length := by have := Tx.decN_len _ _ (decR_in hda).2; simp [Tx.nums] at this; omega
    have hW := Lib.hid (readC_any body (by omega) w0 h')
    simp -dsimp -implicitDefEqProofs (disch := first | omega | assumption | (simp only [Option.isSome_some,Qt0]; done) | (simp only [UInt64.reduceToNat,UInt32.reduceToNat,UInt8.reduceToNat,List.length_cons,List.length_nil,List.length_append,Int.toNat_natCast] <;> omega)) only [Nat.reduceLT,Nat.reduceLeDiff,Nat.reduceEqDiff,↓reduceIte,Int.reduceLT,Int.reduceLE,Int.reduceToNat,Int.reduceEq,Int.reduceNe,Nat.reduceAdd,UInt8.reduceOfNat,UInt16.reduceOfNat,UInt32.reduceOfNat,UInt64.reduceOfNat,UInt64.reduceToNat,UInt32.reduceToNat,UInt16.reduceToNat,UInt8.reduceToNat,Int.reduceAdd,Int.reduceSub,Int.reduceMul,Nat.reduceMul,Qp0,Ql0,Qe0,f0,f1,f2,f6,f8,e1,hx,b1,hta]
    refine hR.out.mono ?_
    rintro v hq ⟨rfl, hz⟩
    obtain rfl := hz.symm
    simp -dsimp -implicitDefEqProofs (disch := first | omega | assumption | (simp only [Option.isSome_some,Qt0]; done) | (simp only [UInt64.reduceToNat,UInt32.reduceToNat,UInt8.reduceToNat,List.length_cons,List.length_nil,List.length_append,Int.toNat_natCast] <;> omega)) only [Nat.reduceLT,Nat.reduceLeDiff,Nat.reduceEqDiff,↓reduceIte,Int.reduceLT,Int.reduceLE,Int.reduceToNat,Int.reduceEq,Int.reduceNe,Nat.reduceAdd,UInt8.reduceOfNat,UInt16.reduceOfNat,UInt32.reduceOfNat,UInt64.reduceOfNat,UInt64.reduceToNat,UInt32.reduceToNat,UInt16.reduceToNat,UInt8.reduceToNat,Int.reduceAdd,Int.reduceSub,Int.reduceMul,Nat.reduceMul,Qp0,Ql0,Qe0,f0,f1,f2,f6,f8]
    refine hW.out.mono ?_
    rintro v h4 ⟨hrec, hl4⟩
    have hm4 := hl4.m _ _ hm
    have hle4 := hle.trans hl4
    rcases hrec with ⟨c, A, cap, hic, rfl, hcap, hrv⟩ | ⟨hno, rfl⟩
    rotate_left
    · have hclz : clL clZ none 0 = [str [], str [], .int .i64 0, .int .i64 0, .int .i64 0, .slice none 0 0] := rfl
      rw [hclz]
      simp -dsimp -implicitDefEqProofs (disch := first | omega | assumption | (simp only [Option.isSome_some,Qt0]; done) | (simp only [UInt64.reduceToNat,UInt32.reduceToNat,UInt8.reduceToNat,List.length_cons,List.length_nil,List.length_append,Int.toNat_natCast] <;> omega)) only [Nat.reduceLT,Nat.reduceLeDiff,Nat.reduceEqDiff,↓reduceIte,Int.reduceLT,Int.reduceLE,Int.reduceToNat,Int.reduceEq,Int.reduceNe,Nat.reduceAdd,UInt8.reduceOfNat,UInt16.reduceOfNat,UInt32.reduceOfNat,UInt64.reduceOfNat,UInt64.reduceToNat,UInt32.reduceToNat,UInt16.reduceToNat,UInt8.reduceToNat,Int.reduceAdd,Int.reduceSub,Int.reduceMul,Nat.reduceMul,Qp0,Ql0,Qe0,f0,f1,f2,f6,f8]
      refine fun cb hcb => ?_
      have hz2 := allOne_of [str [], str [], .int .i64 0, .int .i64 0, .int .i64 0, .slice none 0 0] rfl
      have hrc : (rb = cb) = False := eq_false (by have := h4.lt _ _ hm4; omega)
      simp -dsimp -implicitDefEqProofs (disch := first | omega | assumption | (simp only [Option.isSome_some,Qt0]; done) | (simp only [UInt64.reduceToNat,UInt32.reduceToNat,UInt8.reduceToNat,List.length_cons,List.length_nil,List.length_append,Int.toNat_natCast] <;> omega)) only [Nat.reduceLT,Nat.reduceLeDiff,Nat.reduceEqDiff,↓reduceIte,Int.reduceLT,Int.reduceLE,Int.reduceToNat,Int.reduceEq,Int.reduceNe,Nat.reduceAdd,UInt8.reduceOfNat,UInt16.reduceOfNat,UInt32.reduceOfNat,UInt64.reduceOfNat,UInt64.reduceToNat,UInt32.reduceToNat,UInt16.reduceToNat,UInt8.reduceToNat,Int.reduceAdd,Int.reduceSub,Int.reduceMul,Nat.reduceMul,Qp0,Ql0,Qe0,f0,f1,f2,f6,f8,hz2,hz,hrc,hm4,PH.new_new,List.take_zero,List.drop_succ_cons,List.drop_zero,List.drop_nil,List.nil_append,List.append_nil,rdN_new,List.take_succ_cons,ite_true]
      refine ⟨_, PH.Le.refl _, .inr ⟨fun d hdd => ?_, rfl⟩, (hle4.new cb _ (Nat.le_trans hle4.top hcb)).new rb _ hrb0⟩
      obtain ⟨y, hy, hy2⟩ := isT_dec hc hdd
      rw [hda] at hy
      injection hy with hy
      rw [← hy] at hy2
      exact hno d hy2
    have hck := (rightC_iff.1 hic.1).2.2.2.2.2.2.1
    have hx8 := trim_len (rightC_iff.1 hic.1).2.2.2.2.2.2.2
    have only : ∀ d, IsT (alive cur) (derive M) s d → d = c := fun d hdd => by
      obtain ⟨y, hy, hy2⟩ := isT_dec hc hdd
      rw [hda] at hy
      injection hy with hy
      rw [← hy] at hy2
      exact IsC_one' hy2 hic
    unfold clL
    simp -dsimp -implicitDefEqProofs (disch := first | omega | assumption | (simp only [Option.isSome_some,Qt0]; done) | (simp only [UInt64.reduceToNat,UInt32.reduceToNat,UInt8.reduceToNat,List.length_cons,List.length_nil,List.length_append,Int.toNat_natCast] <;> omega)) only [Nat.reduceLT,Nat.reduceLeDiff,Nat.reduceEqDiff,↓reduceIte,Int.reduceLT,Int.reduceLE,Int.reduceToNat,Int.reduceEq,Int.reduceNe,Nat.reduceAdd,UInt8.reduceOfNat,UInt16.reduceOfNat,UInt32.reduceOfNat,UInt64.reduceOfNat,UInt64.reduceToNat,UInt32.reduceToNat,UInt16.reduceToNat,UInt8.reduceToNat,Int.reduceAdd,Int.reduceSub,Int.reduceMul,Nat.reduceMul,Qp0,Ql0,Qe0,f0,f1,f2,f6,f8]
    refine fun cb hcb => ?_
    have hz2 := allOne_of [str c.s, str c.u, .int .i64 c.e, .int .i64 c.i, .int .i64 c.k, .slice A c.x.length cap] rfl
    have hlc := (PH.Le.refl h4).new cb ⟨[str c.s, str c.u, .int .i64 c.e, .int .i64 c.i, .int .i64 c.k, .slice A c.x.length cap], 6⟩ hcb
    have hmc : (h4.new cb ⟨[str c.s, str c.u, .int .i64 c.e, .int .i64 c.i, .int .i64 c.k, .slice A c.x.length cap], 6⟩).m cb = some ⟨[str c.s, str c.u, .int .i64 c.e, .int .i64 c.i, .int .i64 c.k, .slice A c.x.length cap], 6⟩ := by rw [PH.new_m, if_pos rfl]
    simp -dsimp -implicitDefEqProofs (disch := first | omega | assumption | (simp only [Option.isSome_some,Qt0]; done) | (simp only [UInt64.reduceToNat,UInt32.reduceToNat,UInt8.reduceToNat,List.length_cons,List.length_nil,List.length_append,Int.toNat_natCast] <;> omega)) only [Nat.reduceLT,Nat.reduceLeDiff,Nat.reduceEqDiff,↓reduceIte,Int.reduceLT,Int.reduceLE,Int.reduceToNat,Int.reduceEq,Int.reduceNe,Nat.reduceAdd,UInt8.reduceOfNat,UInt16.reduceOfNat,UInt32.reduceOfNat,UInt64.reduceOfNat,UInt64.reduceToNat,UInt32.reduceToNat,UInt16.reduceToNat,UInt8.reduceToNat,Int.reduceAdd,Int.reduceSub,Int.reduceMul,Nat.reduceMul,Qp0,Ql0,Qe0,f0,f1,f2,f6,f8,hz2,PH.new_new,List.take_zero,List.drop_succ_cons,List.drop_zero,List.drop_nil,List.nil_append,List.append_nil,rdN_new,List.take_succ_cons,ite_true]
    generalize h4.new cb ⟨[str c.s, str c.u, .int .i64 c.e, .int .i64 c.i, .int .i64 c.k, .slice A c.x.length cap], 6⟩ = h5 at *
    have hm5 := hlc.m _ _ hm4
    have hle5 := hle4.trans hlc
    have hrv5 := hrv.more hlc
    have hAl := Lib.hid (ralive_any cur c.k hcur w0 h5)
    have hC0 : rdN w0 h5 ⟨cb, 0, none⟩ 6 = some [str c.s, str c.u, .int .i64 c.e, .int .i64 c.i, .int .i64 c.k, .slice A c.x.length cap] := by unfold rdN; simp only [hmc]; rfl
    have hT := rtok_any M hm0 c A cap w0 h5 hrv5 hcap (by omega)
    rw [if_pos hic.1] at hT
    unfold clL at hT
    by_cases hal : alive cur c.k
    rotate_left
    · rw [decide_eq_false hal] at hAl
      simp -dsimp -implicitDefEqProofs (disch := first | omega | assumption | (simp only [Option.isSome_some,Qt0]; done) | (simp only [UInt64.reduceToNat,UInt32.reduceToNat,UInt8.reduceToNat,List.length_cons,List.length_nil,List.length_append,Int.toNat_natCast] <;> omega)) only [Nat.reduceLT,Nat.reduceLeDiff,Nat.reduceEqDiff,↓reduceIte,Int.reduceLT,Int.reduceLE,Int.reduceToNat,Int.reduceEq,Int.reduceNe,Nat.reduceAdd,UInt8.reduceOfNat,UInt16.reduceOfNat,UInt32.reduceOfNat,UInt64.reduceOfNat,UInt64.reduceToNat,UInt32.reduceToNat,UInt16.reduceToNat,UInt8.reduceToNat,Int.reduceAdd,Int.reduceSub,Int.reduceMul,Nat.reduceMul,Qp0,Ql0,Qe0,f0,f1,f2,f6,f8,rd_M,rdM_some,hmc]
      refine hAl.out.mono ?_
      rintro v hq ⟨rfl, hz⟩
      obtain rfl := hz.symm
      simp -dsimp -implicitDefEqProofs (disch := first | omega | assumption | (simp only [Option.isSome_some,Qt0]; done) | (simp only [UInt64.reduceToNat,UInt32.reduceToNat,UInt8.reduceToNat,List.length_cons,List.length_nil,List.length_append,Int.toNat_natCast] <;> omega)) only [Nat.reduceLT,Nat.reduceLeDiff,Nat.reduceEqDiff,↓reduceIte,Int.reduceLT,Int.reduceLE,Int.reduceToNat,Int.reduceEq,Int.reduceNe,Nat.reduceAdd,UInt8.reduceOfNat,UInt16.reduceOfNat,UInt32.reduceOfNat,UInt64.reduceOfNat,UInt64.reduceToNat,UInt32.reduceToNat,UInt16.reduceToNat,UInt8.reduceToNat,Int.reduceAdd,Int.reduceSub,Int.reduceMul,Nat.reduceMul,Qp0,Ql0,Qe0,f0,f1,f2,f6,f8,hm5,hz,List.take_zero,List.drop_succ_cons,List.drop_zero,List.drop_nil,List.nil_append,List.append_nil,rdN_new,List.take_succ_cons,ite_true]
      refine ⟨_, PH.Le.refl _, .inr ⟨fun d hdd => ?_, rfl⟩, hle5.new rb _ hrb0⟩
      rw [only d hdd] at hdd
      exact hal hdd.2.1
    rw [decide_eq_true hal] at hAl
    obtain ⟨T, hTT⟩ : ∃ T, tok (derive M) c = T := ⟨_, rfl⟩
    rw [hTT] at hT
    have hT := Lib.hid hT.lowR
    simp -dsimp -implicitDefEqProofs (disch := first | omega | assumption | (simp only [Option.isSome_some,Qt0]; done) | (simp only [UInt64.reduceToNat,UInt32.reduceToNat,UInt8.reduceToNat,List.length_cons,List.length_nil,List.length_append,Int.toNat_natCast] <;> omega)) only [Nat.reduceLT,Nat.reduceLeDiff,Nat.reduceEqDiff,↓reduceIte,Int.reduceLT,Int.reduceLE,Int.reduceToNat,Int.reduceEq,Int.reduceNe,Nat.reduceAdd,UInt8.reduceOfNat,UInt16.reduceOfNat,UInt32.reduceOfNat,UInt64.reduceOfNat,UInt64.reduceToNat,UInt32.reduceToNat,UInt16.reduceToNat,UInt8.reduceToNat,Int.reduceAdd,Int.reduceSub,Int.reduceMul,Nat.reduceMul,Qp0,Ql0,Qe0,f0,f1,f2,f6,f8,rd_M,rdM_some,hmc]
    refine hAl.out.mono ?_
    rintro v hq ⟨rfl, hz⟩
    obtain rfl := hz.symm
    simp -dsimp -implicitDefEqProofs (disch := first | omega | assumption | (simp only [Option.isSome_some,Qt0]; done) | (simp only [UInt64.reduceToNat,UInt32.reduceToNat,UInt8.reduceToNat,List.length_cons,List.length_nil,List.length_append,Int.toNat_natCast] <;> omega)) only [Nat.reduceLT,Nat.reduceLeDiff,Nat.reduceEqDiff,↓reduceIte,Int.reduceLT,Int.reduceLE,Int.reduceToNat,Int.reduceEq,Int.reduceNe,Nat.reduceAdd,UInt8.reduceOfNat,UInt16.reduceOfNat,UInt32.reduceOfNat,UInt64.reduceOfNat,UInt64.reduceToNat,UInt32.reduceToNat,UInt16.reduceToNat,UInt8.reduceToNat,Int.reduceAdd,Int.reduceSub,Int.reduceMul,Nat.reduceMul,Qp0,Ql0,Qe0,f0,f1,f2,f6,f8,hC0]
    refine hT.out.mono ?_
    rintro v h6 ⟨⟨rfl, hl6⟩, hlow⟩
    have hm6 := hl6.m _ _ hm5
    have hmc6 := hl6.m _ _ hmc
    have hle6 := hle5.trans hl6
    have hC6 : rdN w0 h6 ⟨cb, 0, none⟩ 6 = some [str c.s, str c.u, .int .i64 c.e, .int .i64 c.i, .int .i64 c.k, .slice A c.x.length cap] := by unfold rdN; simp only [hmc6]; rfl
    by_cases hts : T = s
    · have b3 : decide (¬ T = s) = false := decide_eq_false (fun e => e hts)
      simp -dsimp -implicitDefEqProofs (disch := first | omega | assumption | (simp only [Option.isSome_some,Qt0]; done) | (simp only [UInt64.reduceToNat,UInt32.reduceToNat,UInt8.reduceToNat,List.length_cons,List.length_nil,List.length_append,Int.toNat_natCast] <;> omega)) only [Nat.reduceLT,Nat.reduceLeDiff,Nat.reduceEqDiff,↓reduceIte,Int.reduceLT,Int.reduceLE,Int.reduceToNat,Int.reduceEq,Int.reduceNe,Nat.reduceAdd,UInt8.reduceOfNat,UInt16.reduceOfNat,UInt32.reduceOfNat,UInt64.reduceOfNat,UInt64.reduceToNat,UInt32.reduceToNat,UInt16.reduceToNat,UInt8.reduceToNat,Int.reduceAdd,Int.reduceSub,Int.reduceMul,Nat.reduceMul,Qp0,Ql0,Qe0,f0,f1,f2,f6,f8,b3,hm6,hz,hz2,hC6,List.take_zero,List.drop_succ_cons,List.drop_zero,List.drop_nil,List.nil_append,List.append_nil,rdN_new,List.take_succ_cons,ite_true]
      exact ⟨_, PH.Le.refl _, .inl ⟨c, A, cap, ⟨hic.1, hal, by rw [hTT, hts]⟩, rfl, hcap, rv_put0 (hrv5.more hl6) hlow hm6 (rightC_iff.1 hic.1).2.2.2.2.2.2.2 _⟩, hle6.new rb _ hrb0⟩
    · have b3 : decide (¬ T = s) = true := decide_eq_true hts
      simp -dsimp -implicitDefEqProofs (disch := first | omega | assumption | (simp only [Option.isSome_some,Qt0]; done) | (simp only [UInt64.reduceToNat,UInt32.reduceToNat,UInt8.reduceToNat,List.length_cons,List.length_nil,List.length_append,Int.toNat_natCast] <;> omega)) only [Nat.reduceLT,Nat.reduceLeDiff,Nat.reduceEqDiff,↓reduceIte,Int.reduceLT,Int.reduceLE,Int.reduceToNat,Int.reduceEq,Int.reduceNe,Nat.reduceAdd,UInt8.reduceOfNat,UInt16.reduceOfNat,UInt32.reduceOfNat,UInt64.reduceOfNat,UInt64.reduceToNat,UInt32.reduceToNat,UInt16.reduceToNat,UInt8.reduceToNat,Int.reduceAdd,Int.reduceSub,Int.reduceMul,Nat.reduceMul,Qp0,Ql0,Qe0,f0,f1,f2,f6,f8,b3,hm6,hz,hz2,hC6,List.take_zero,List.drop_succ_cons,List.drop_zero,List.drop_nil,List.nil_append,List.append_nil,rdN_new,List.take_succ_cons,ite_true]
      refine ⟨_, PH.Le.refl _, .inr ⟨fun d hdd => ?_, rfl⟩, hle6.new rb _ hrb0⟩
      have := hdd.2.2
      rw [only d hdd, hTT] at this
      exact hts this.symm
end Go.Proofs.YtdlaoeepeakpeaaGreat


/- More lemmas on arguments: elements that are arrays. No condition. -/
namespace Go.Proofs.YtdlaoeepeakpeaaGreat.Base
set_option linter.unusedVariables false
set_option linter.unusedSimpArgs false
open Go.ChangeShapes Go.WideShapes Go.ChangeAt Go.RowKit Go.Deep

theorem Blk.setCells {b : Nat} {t : TypeId} (vs : List Value) : ∀ (o : Nat) {cs : List Value} {w : World}, Blk w b t cs.toArray → o + vs.length ≤ cs.length → Blk (w.setCells b o vs) b t (cs.take o ++ vs ++ cs.drop (o + vs.length)).toArray := by
  induction vs with
  | nil => intro o cs w h _; simpa [World.setCells] using h
  | cons v vs ih =>
    intro o cs w h hl
    have h1 := h.set_ o v
    rw [List.setIfInBounds_toArray] at h1
    have h2 := ih (o + 1) h1 (by simp at hl ⊢; omega)
    have e : (cs.set o v).take (o + 1) ++ vs ++ (cs.set o v).drop (o + 1 + vs.length) = cs.take o ++ (v :: vs) ++ cs.drop (o + (v :: vs).length) := by
      have ho : o < cs.length := by simp at hl; omega
      rw [List.drop_set_of_lt (by omega), List.take_add_one, List.getElem?_set_self (by omega), List.take_set_of_le (by omega)]
      simp [Nat.add_assoc, Nat.add_comm 1]
    rw [e] at h2
    exact h2
theorem Only.setCells {p : Nat} (vs : List Value) : ∀ (o : Nat) {w w' : World}, Only p w w' → Only p w (w'.setCells p o vs) := by
  induction vs with
  | nil => intro o w w' h; simpa [World.setCells] using h
  | cons v vs ih => intro o w w' h; exact ih (o + 1) (h.trans (Only.setCell w' p o v))

end Go.Proofs.YtdlaoeepeakpeaaGreat.Base

