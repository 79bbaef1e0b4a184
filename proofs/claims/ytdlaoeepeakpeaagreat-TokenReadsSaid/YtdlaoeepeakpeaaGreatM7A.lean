/- Parts Wrd, Wdi, Wre, Wrf, Wrg, Er, Sha, MnE, joined. No condition. -/
import Derived.Test.YtdlaoeepeakpeaaGreatM6A
import Derived.Test.YtdlaoeepeakpeaaGreatM4A
import Derived.LaidEql
import Derived.Stop.Asserts
import Derived.Laws.Externs
import Derived.Test.YtdlaoeepeakpeaaGreatProg
import Derived.Test.YtdlaoeepeakpeaaGreatM3A
/- The document's bytes: Bytes, Written. No condition. -/
namespace Go.Proofs.YtdlaoeepeakpeaaGreat
set_option linter.unusedVariables false
set_option linter.unusedSimpArgs false
open Go.RowKit Px Wr
set_option maxRecDepth 20000 in
set_option maxHeartbeats 2000000 in
theorem rbytes_any (x : It) (A : Option Addr) (cap : Nat) (hN : x.N ≤ 9223372036854775807) (hS : x.S.length ≤ 1000000) (hV : x.V.length ≤ 1000000) (hc : x.V.length ≤ cap) (w0 : World) (h : PH) (hr : Rv w0 h A (ints x.V)) : PCalls Tryz.prog w0 76 [.agg (itL x A cap).toArray] h fun r h' => r = .tuple #[str ((bytesI x).getD []), .bool (bytesI x).isSome] ∧ h' = h := by
  refine PCalls_body Tryz.func76 (by kernel_rfl) rfl _ Tryz.ntmps76 (by kernel_rfl) (by kernel_rfl) _ Tryz.results76 ?_
  unfold itL
  simp -dsimp -implicitDefEqProofs (disch := first | omega | assumption | (simp only [Option.isSome_some,Qt0]; done) | (simp only [List.length_cons,List.length_nil,List.length_append,Int.toNat_natCast] <;> omega)) only [Nat.reduceLT,Nat.reduceLeDiff,Nat.reduceEqDiff,↓reduceIte,Int.reduceLT,Int.reduceLE,Int.reduceToNat,Int.reduceEq,Int.reduceNe,Nat.reduceAdd,Int.reduceAdd,Int.reduceSub,Int.reduceMul,Nat.reduceMul,Qp0,Ql0,Qe0]
  refine fun pb hpb => ?_
  have hle := (PH.Le.refl h).new pb ⟨[.int .i64 x.K, .int .i64 x.N, str x.S, .bool x.B, .slice A x.V.length cap], 5⟩ hpb
  have hp : (h.new pb ⟨[.int .i64 x.K, .int .i64 x.N, str x.S, .bool x.B, .slice A x.V.length cap], 5⟩).m pb = some ⟨[.int .i64 x.K, .int .i64 x.N, str x.S, .bool x.B, .slice A x.V.length cap], 5⟩ := by rw [PH.new_m, if_pos rfl]
  have hr1 := hr.more hle
  simp -dsimp -implicitDefEqProofs (disch := first | omega | assumption | (simp only [Option.isSome_some,Qt0]; done) | (simp only [List.length_cons,List.length_nil,List.length_append,Int.toNat_natCast] <;> omega)) only [Nat.reduceLT,Nat.reduceLeDiff,Nat.reduceEqDiff,↓reduceIte,Int.reduceLT,Int.reduceLE,Int.reduceToNat,Int.reduceEq,Int.reduceNe,Nat.reduceAdd,Int.reduceAdd,Int.reduceSub,Int.reduceMul,Nat.reduceMul,Qp0,Ql0,Qe0]
  generalize h.new pb ⟨[.int .i64 x.K, .int .i64 x.N, str x.S, .bool x.B, .slice A x.V.length cap], 5⟩ = h1 at *
  by_cases k1 : x.K = 1
  · have e1 := decide_eq_true k1
    have hB : bytesI x = some (textB x.S) := by unfold bytesI; rw [if_pos k1]
    have hM := Lib.hid (rnumber_any x.S.length (by omega) w0 h1)
    have hl := numB_len9 (n := x.S.length) (by omega)
    rw [hB]
    simp -dsimp -implicitDefEqProofs (disch := first | omega | assumption | (simp only [Option.isSome_some,Qt0]; done) | (simp only [List.length_cons,List.length_nil,List.length_append,Int.toNat_natCast] <;> omega)) only [Nat.reduceLT,Nat.reduceLeDiff,Nat.reduceEqDiff,↓reduceIte,Int.reduceLT,Int.reduceLE,Int.reduceToNat,Int.reduceEq,Int.reduceNe,Nat.reduceAdd,Int.reduceAdd,Int.reduceSub,Int.reduceMul,Nat.reduceMul,Qp0,Ql0,Qe0,rd_M,rdM_some,hp,e1]
    refine PW_plan [0, 1, 2, 4, 5, 3, 6, 7, 8] h1 (by kernel_rfl) (by decide +kernel) (by kernel_rfl) (by kernel_rfl) (by kernel_rfl) (fun c f h hq => by simp only [thenC_panic, thenK_panic, inBlk_panic, thenN_panic, vcRet_panic] at hq) (PH.Le.refl _).sub ?_
    simp -dsimp -implicitDefEqProofs (disch := first | omega | assumption | (simp only [Option.isSome_some,Qt0]; done) | (simp only [List.length_cons,List.length_nil,List.length_append,Int.toNat_natCast] <;> omega)) only [Nat.reduceLT,Nat.reduceLeDiff,Nat.reduceEqDiff,↓reduceIte,Int.reduceLT,Int.reduceLE,Int.reduceToNat,Int.reduceEq,Int.reduceNe,Nat.reduceAdd,Int.reduceAdd,Int.reduceSub,Int.reduceMul,Nat.reduceMul,Qp0,Ql0,Qe0,rd_M,rdM_some,hp]
    refine hM.out.mono ?_
    rintro v hq ⟨rfl, hz⟩
    obtain rfl := hz.symm
    refine ⟨(PH.Le.refl _).sub, ?_⟩
    simp -dsimp -implicitDefEqProofs (disch := first | omega | assumption | (simp only [Option.isSome_some,Qt0]; done) | (simp only [List.length_cons,List.length_nil,List.length_append,Int.toNat_natCast] <;> omega)) only [Nat.reduceLT,Nat.reduceLeDiff,Nat.reduceEqDiff,↓reduceIte,Int.reduceLT,Int.reduceLE,Int.reduceToNat,Int.reduceEq,Int.reduceNe,Nat.reduceAdd,Int.reduceAdd,Int.reduceSub,Int.reduceMul,Nat.reduceMul,Qp0,Ql0,Qe0,rd_M,rdM_some,hp]
    exact ⟨_, hle, by first | rfl | trivial, rfl⟩
  have e1 := decide_eq_false k1
  by_cases k2 : x.K = 2
  · have e2 := decide_eq_true k2
    have hB : bytesI x = some (flagB x.B) := by unfold bytesI; rw [if_neg k1, if_pos k2]
    rw [hB]
    have hM1 := Lib.hid (rnumber_any 1 (by omega) w0 h1)
    have hM0 := Lib.hid (rnumber_any 0 (by omega) w0 h1)
    cases hb : x.B with
    | true =>
      rw [hb] at hp
      simp -dsimp -implicitDefEqProofs (disch := first | omega | assumption | (simp only [Option.isSome_some,Qt0]; done) | (simp only [List.length_cons,List.length_nil,List.length_append,Int.toNat_natCast] <;> omega)) only [Nat.reduceLT,Nat.reduceLeDiff,Nat.reduceEqDiff,↓reduceIte,Int.reduceLT,Int.reduceLE,Int.reduceToNat,Int.reduceEq,Int.reduceNe,Nat.reduceAdd,Int.reduceAdd,Int.reduceSub,Int.reduceMul,Nat.reduceMul,Qp0,Ql0,Qe0,rd_M,rdM_some,hp,e1,e2]
      refine hM1.out.mono ?_
      rintro v hq ⟨rfl, hz⟩
      obtain rfl := hz.symm
      simp -dsimp -implicitDefEqProofs (disch := first | omega | assumption | (simp only [Option.isSome_some,Qt0]; done) | (simp only [List.length_cons,List.length_nil,List.length_append,Int.toNat_natCast] <;> omega)) only [Nat.reduceLT,Nat.reduceLeDiff,Nat.reduceEqDiff,↓reduceIte,Int.reduceLT,Int.reduceLE,Int.reduceToNat,Int.reduceEq,Int.reduceNe,Nat.reduceAdd,Int.reduceAdd,Int.reduceSub,Int.reduceMul,Nat.reduceMul,Qp0,Ql0,Qe0]
      exact ⟨_, hle, by first | rfl | trivial, rfl⟩
    | false =>
      rw [hb] at hp
      simp -dsimp -implicitDefEqProofs (disch := first | omega | assumption | (simp only [Option.isSome_some,Qt0]; done) | (simp only [List.length_cons,List.length_nil,List.length_append,Int.toNat_natCast] <;> omega)) only [Nat.reduceLT,Nat.reduceLeDiff,Nat.reduceEqDiff,↓reduceIte,Int.reduceLT,Int.reduceLE,Int.reduceToNat,Int.reduceEq,Int.reduceNe,Nat.reduceAdd,Int.reduceAdd,Int.reduceSub,Int.reduceMul,Nat.reduceMul,Qp0,Ql0,Qe0,rd_M,rdM_some,hp,e1,e2]
      refine hM0.out.mono ?_
      rintro v hq ⟨rfl, hz⟩
      obtain rfl := hz.symm
      simp -dsimp -implicitDefEqProofs (disch := first | omega | assumption | (simp only [Option.isSome_some,Qt0]; done) | (simp only [List.length_cons,List.length_nil,List.length_append,Int.toNat_natCast] <;> omega)) only [Nat.reduceLT,Nat.reduceLeDiff,Nat.reduceEqDiff,↓reduceIte,Int.reduceLT,Int.reduceLE,Int.reduceToNat,Int.reduceEq,Int.reduceNe,Nat.reduceAdd,Int.reduceAdd,Int.reduceSub,Int.reduceMul,Nat.reduceMul,Qp0,Ql0,Qe0]
      exact ⟨_, hle, by first | rfl | trivial, rfl⟩
  have e2 := decide_eq_false k2
  by_cases k3 : x.K = 3
  · have e3 := decide_eq_true k3
    have hT := PCalls_low fun hl => rtrimmed_any w0 h1 hl A cap x.V 4611686018427387903 hr1 hc (by omega)
    cases ht : trim x.V 4611686018427387903 with
    | false =>
      have hB : bytesI x = none := by unfold bytesI; rw [if_neg k1, if_neg k2, if_pos k3, ht, if_neg (by simp)]
      rw [hB]
      rw [ht] at hT
      have hT := Lib.hid hT
      simp -dsimp -implicitDefEqProofs (disch := first | omega | assumption | (simp only [Option.isSome_some,Qt0]; done) | (simp only [List.length_cons,List.length_nil,List.length_append,Int.toNat_natCast] <;> omega)) only [Nat.reduceLT,Nat.reduceLeDiff,Nat.reduceEqDiff,↓reduceIte,Int.reduceLT,Int.reduceLE,Int.reduceToNat,Int.reduceEq,Int.reduceNe,Nat.reduceAdd,Int.reduceAdd,Int.reduceSub,Int.reduceMul,Nat.reduceMul,Qp0,Ql0,Qe0,rd_M,rdM_some,hp,e1,e2,e3]
      refine hT.out.mono ?_
      rintro v hq ⟨rfl, hz⟩
      obtain rfl := hz.symm
      simp -dsimp -implicitDefEqProofs (disch := first | omega | assumption | (simp only [Option.isSome_some,Qt0]; done) | (simp only [List.length_cons,List.length_nil,List.length_append,Int.toNat_natCast] <;> omega)) only [Nat.reduceLT,Nat.reduceLeDiff,Nat.reduceEqDiff,↓reduceIte,Int.reduceLT,Int.reduceLE,Int.reduceToNat,Int.reduceEq,Int.reduceNe,Nat.reduceAdd,Int.reduceAdd,Int.reduceSub,Int.reduceMul,Nat.reduceMul,Qp0,Ql0,Qe0]
      exact ⟨_, hle, by first | rfl | trivial, rfl⟩
    | true =>
      have hB : bytesI x = some (vecB x.V) := by unfold bytesI; rw [if_neg k1, if_neg k2, if_pos k3, ht, if_pos rfl]
      rw [hB]
      rw [ht] at hT
      have hT := Lib.hid hT
      have h16 := trim_len ht
      have hall := trim_iff.1 ht
      have hM := Lib.hid (rnumber_any x.V.length (by omega) w0 h1)
      simp -dsimp -implicitDefEqProofs (disch := first | omega | assumption | (simp only [Option.isSome_some,Qt0]; done) | (simp only [List.length_cons,List.length_nil,List.length_append,Int.toNat_natCast] <;> omega)) only [Nat.reduceLT,Nat.reduceLeDiff,Nat.reduceEqDiff,↓reduceIte,Int.reduceLT,Int.reduceLE,Int.reduceToNat,Int.reduceEq,Int.reduceNe,Nat.reduceAdd,Int.reduceAdd,Int.reduceSub,Int.reduceMul,Nat.reduceMul,Qp0,Ql0,Qe0,rd_M,rdM_some,hp,e1,e2,e3]
      refine hT.out.mono ?_
      rintro v hq ⟨rfl, hz⟩
      obtain rfl := hz.symm
      simp -dsimp -implicitDefEqProofs (disch := first | omega | assumption | (simp only [Option.isSome_some,Qt0]; done) | (simp only [List.length_cons,List.length_nil,List.length_append,Int.toNat_natCast] <;> omega)) only [Nat.reduceLT,Nat.reduceLeDiff,Nat.reduceEqDiff,↓reduceIte,Int.reduceLT,Int.reduceLE,Int.reduceToNat,Int.reduceEq,Int.reduceNe,Nat.reduceAdd,Int.reduceAdd,Int.reduceSub,Int.reduceMul,Nat.reduceMul,Qp0,Ql0,Qe0,rd_M,rdM_some,hp]
      refine hM.out.mono ?_
      rintro v hq ⟨rfl, hz⟩
      obtain rfl := hz.symm
      simp -dsimp -implicitDefEqProofs (disch := first | omega | assumption | (simp only [Option.isSome_some,Qt0]; done) | (simp only [List.length_cons,List.length_nil,List.length_append,Int.toNat_natCast] <;> omega)) only [Nat.reduceLT,Nat.reduceLeDiff,Nat.reduceEqDiff,↓reduceIte,Int.reduceLT,Int.reduceLE,Int.reduceToNat,Int.reduceEq,Int.reduceNe,Nat.reduceAdd,Int.reduceAdd,Int.reduceSub,Int.reduceMul,Nat.reduceMul,Qp0,Ql0,Qe0,rd_M,rdM_some,hp]
      refine PW_loopL (fun n f h' => ∃ i : Nat, n + i = x.V.length ∧ f 1 = some (.pointer (some ⟨pb, 0, none⟩)) ∧ f 4 = some (str (numB x.V.length ++ (x.V.take i).flatMap fun n => numB n.toNat)) ∧ f 5 = some (.int .i64 i) ∧ h' = h1) (by kernel_rfl) x.V.length ⟨0, by omega, ?_, ?_, ?_, rfl⟩ ?_
      · simp -dsimp -implicitDefEqProofs (disch := first | omega | assumption | (simp only [Option.isSome_some,Qt0]; done) | (simp only [List.length_cons,List.length_nil,List.length_append,Int.toNat_natCast] <;> omega)) only [Nat.reduceLT,Nat.reduceLeDiff,Nat.reduceEqDiff,↓reduceIte,Int.reduceLT,Int.reduceLE,Int.reduceToNat,Int.reduceEq,Int.reduceNe,Nat.reduceAdd,Int.reduceAdd,Int.reduceSub,Int.reduceMul,Nat.reduceMul,Qp0,Ql0,Qe0]
      · simp -dsimp -implicitDefEqProofs (disch := first | omega | assumption | (simp only [Option.isSome_some,Qt0]; done) | (simp only [List.length_cons,List.length_nil,List.length_append,Int.toNat_natCast] <;> omega)) only [Nat.reduceLT,Nat.reduceLeDiff,Nat.reduceEqDiff,↓reduceIte,Int.reduceLT,Int.reduceLE,Int.reduceToNat,Int.reduceEq,Int.reduceNe,Nat.reduceAdd,Int.reduceAdd,Int.reduceSub,Int.reduceMul,Nat.reduceMul,Qp0,Ql0,Qe0]
        simp
      · simp -dsimp -implicitDefEqProofs (disch := first | omega | assumption | (simp only [Option.isSome_some,Qt0]; done) | (simp only [List.length_cons,List.length_nil,List.length_append,Int.toNat_natCast] <;> omega)) only [Nat.reduceLT,Nat.reduceLeDiff,Nat.reduceEqDiff,↓reduceIte,Int.reduceLT,Int.reduceLE,Int.reduceToNat,Int.reduceEq,Int.reduceNe,Nat.reduceAdd,Int.reduceAdd,Int.reduceSub,Int.reduceMul,Nat.reduceMul,Qp0,Ql0,Qe0]
        try rfl
      rintro n f h' ⟨i, hni, f1, f4, f5, rfl⟩ hl'
      have hlen : (numB x.V.length ++ (x.V.take i).flatMap fun n => numB n.toNat).length ≤ 1000 := by
        have h5 := numB_len9 (n := x.V.length) (by omega)
        have h6 := flat_len_le (x.V.take i) (fun n hn => by have := trim_all ht n (List.mem_of_mem_take hn); omega)
        simp only [List.length_append]
        simp only [List.length_take] at h6
        omega
      by_cases hi : i < x.V.length
      · have e4 : decide ((i : Int) < (x.V.length : Int)) = true := decide_eq_true (by omega)
        have hb := hall.2.2 i hi
        have hN := rnumber_any (x.V.getD i 0).toNat (by omega) w0 h'
        have hnl := numB_len9 (n := (x.V.getD i 0).toNat) (by omega)
        rw [show (((x.V.getD i 0).toNat : Nat) : Int) = x.V.getD i 0 by omega] at hN
        have hN := Lib.hid hN
        obtain ⟨b, o, rfl⟩ := hr.addr (by simp [ints]; omega)
        have hg := hr1.get hl' (j := i) (u := .int .i64 (x.V.getD i 0)) (by rw [ints, List.getElem?_map, List.getD, List.getElem?_eq_getElem hi]; rfl)
        have hnx : (numB x.V.length ++ (x.V.take i).flatMap fun n => numB n.toNat) ++ numB (x.V.getD i 0).toNat = numB x.V.length ++ (x.V.take (i + 1)).flatMap fun n => numB n.toNat := by rw [vecB_take _ _ hi, List.append_assoc]
        generalize (numB x.V.length ++ (x.V.take i).flatMap fun n => numB n.toNat) = C at *
        simp -dsimp -implicitDefEqProofs (disch := first | omega | assumption | (simp only [Option.isSome_some,Qt0]; done) | (simp only [List.length_cons,List.length_nil,List.length_append,Int.toNat_natCast] <;> omega)) only [Nat.reduceLT,Nat.reduceLeDiff,Nat.reduceEqDiff,↓reduceIte,Int.reduceLT,Int.reduceLE,Int.reduceToNat,Int.reduceEq,Int.reduceNe,Nat.reduceAdd,Int.reduceAdd,Int.reduceSub,Int.reduceMul,Nat.reduceMul,Qp0,Ql0,Qe0,f1,f4,f5,rd_M,rdM_some,hp,e4,hg]
        refine hN.out.mono ?_
        rintro v hq ⟨rfl, hz⟩
        obtain rfl := hz.symm
        simp -dsimp -implicitDefEqProofs (disch := first | omega | assumption | (simp only [Option.isSome_some,Qt0]; done) | (simp only [List.length_cons,List.length_nil,List.length_append,Int.toNat_natCast] <;> omega)) only [Nat.reduceLT,Nat.reduceLeDiff,Nat.reduceEqDiff,↓reduceIte,Int.reduceLT,Int.reduceLE,Int.reduceToNat,Int.reduceEq,Int.reduceNe,Nat.reduceAdd,Int.reduceAdd,Int.reduceSub,Int.reduceMul,Nat.reduceMul,Qp0,Ql0,Qe0,f1,f4,f5,rd_M,rdM_some,hp]
        exact ⟨n - 1, _, by omega, PH.Le.refl _, i + 1, by omega, by trivial, by rw [← hnx], by simp, rfl⟩
      · obtain rfl : i = x.V.length := by omega
        have e4 : decide ((x.V.length : Int) < (x.V.length : Int)) = false := decide_eq_false (by omega)
        rw [List.take_length] at f4
        simp -dsimp -implicitDefEqProofs (disch := first | omega | assumption | (simp only [Option.isSome_some,Qt0]; done) | (simp only [List.length_cons,List.length_nil,List.length_append,Int.toNat_natCast] <;> omega)) only [Nat.reduceLT,Nat.reduceLeDiff,Nat.reduceEqDiff,↓reduceIte,Int.reduceLT,Int.reduceLE,Int.reduceToNat,Int.reduceEq,Int.reduceNe,Nat.reduceAdd,Int.reduceAdd,Int.reduceSub,Int.reduceMul,Nat.reduceMul,Qp0,Ql0,Qe0,f1,f4,f5,rd_M,rdM_some,hp,e4]
        exact ⟨_, hle, by first | rfl | trivial, rfl⟩
  have e3 := decide_eq_false k3
  by_cases hneg : x.N < 0
  · have e4 := decide_eq_true hneg
    have hB : bytesI x = none := by unfold bytesI; rw [if_neg k1, if_neg k2, if_neg k3, if_pos (.inl hneg)]
    rw [hB]
    simp -dsimp -implicitDefEqProofs (disch := first | omega | assumption | (simp only [Option.isSome_some,Qt0]; done) | (simp only [List.length_cons,List.length_nil,List.length_append,Int.toNat_natCast] <;> omega)) only [Nat.reduceLT,Nat.reduceLeDiff,Nat.reduceEqDiff,↓reduceIte,Int.reduceLT,Int.reduceLE,Int.reduceToNat,Int.reduceEq,Int.reduceNe,Nat.reduceAdd,Int.reduceAdd,Int.reduceSub,Int.reduceMul,Nat.reduceMul,Qp0,Ql0,Qe0,rd_M,rdM_some,hp,e1,e2,e3,e4]
    exact ⟨_, hle, by first | rfl | trivial, rfl⟩
  have e4 := decide_eq_false hneg
  by_cases hbig : x.N > 4611686018427387903
  · have e5 := decide_eq_true hbig
    have hB : bytesI x = none := by unfold bytesI; rw [if_neg k1, if_neg k2, if_neg k3, if_pos (.inr hbig)]
    rw [hB]
    simp -dsimp -implicitDefEqProofs (disch := first | omega | assumption | (simp only [Option.isSome_some,Qt0]; done) | (simp only [List.length_cons,List.length_nil,List.length_append,Int.toNat_natCast] <;> omega)) only [Nat.reduceLT,Nat.reduceLeDiff,Nat.reduceEqDiff,↓reduceIte,Int.reduceLT,Int.reduceLE,Int.reduceToNat,Int.reduceEq,Int.reduceNe,Nat.reduceAdd,Int.reduceAdd,Int.reduceSub,Int.reduceMul,Nat.reduceMul,Qp0,Ql0,Qe0,rd_M,rdM_some,hp,e1,e2,e3,e4,e5]
    exact ⟨_, hle, by first | rfl | trivial, rfl⟩
  have e5 := decide_eq_false hbig
  have hB : bytesI x = some (numB x.N.toNat) := by unfold bytesI; rw [if_neg k1, if_neg k2, if_neg k3, if_neg (by omega)]
  rw [hB]
  have hM := rnumber_any x.N.toNat (by omega) w0 h1
  rw [show ((x.N.toNat : Nat) : Int) = x.N by omega] at hM
  have hM := Lib.hid hM
  simp -dsimp -implicitDefEqProofs (disch := first | omega | assumption | (simp only [Option.isSome_some,Qt0]; done) | (simp only [List.length_cons,List.length_nil,List.length_append,Int.toNat_natCast] <;> omega)) only [Nat.reduceLT,Nat.reduceLeDiff,Nat.reduceEqDiff,↓reduceIte,Int.reduceLT,Int.reduceLE,Int.reduceToNat,Int.reduceEq,Int.reduceNe,Nat.reduceAdd,Int.reduceAdd,Int.reduceSub,Int.reduceMul,Nat.reduceMul,Qp0,Ql0,Qe0,rd_M,rdM_some,hp,e1,e2,e3,e4,e5]
  refine hM.out.mono ?_
  rintro v hq ⟨rfl, hz⟩
  obtain rfl := hz.symm
  simp -dsimp -implicitDefEqProofs (disch := first | omega | assumption | (simp only [Option.isSome_some,Qt0]; done) | (simp only [List.length_cons,List.length_nil,List.length_append,Int.toNat_natCast] <;> omega)) only [Nat.reduceLT,Nat.reduceLeDiff,Nat.reduceEqDiff,↓reduceIte,Int.reduceLT,Int.reduceLE,Int.reduceToNat,Int.reduceEq,Int.reduceNe,Nat.reduceAdd,Int.reduceAdd,Int.reduceSub,Int.reduceMul,Nat.reduceMul,Qp0,Ql0,Qe0]
  exact ⟨_, hle, by first | rfl | trivial, rfl⟩
/-- A row of items. -/
def Items (w0 : World) (h : PH) (A : Option Addr) (L : List It) : Prop :=
  ∀ (i : Nat) (x : It), L[i]? = some x → x.N ≤ 9223372036854775807 ∧ x.S.length ≤ 900000 ∧ x.V.length ≤ 900000 ∧ ∃ b o Ai cap, A = some ⟨b, o, none⟩ ∧ x.V.length ≤ cap ∧ Rv w0 h Ai (ints x.V) ∧ ∀ h', PH.Le h h' → Low w0 h' → rdN w0 h' ⟨b, o + i * 5, none⟩ 5 = some (itL x Ai cap)
def wres : WS → Value
  | (l, none) => .tuple #[str l, .int .i64 0, .int .i64 0]
  | (_, some (k, p)) => .tuple #[str [], .int .i64 k, .int .i64 p]
set_option maxRecDepth 20000 in
set_option maxHeartbeats 2000000 in
theorem written_any (w0 : World) (h : PH) (A : Option Addr) (c : Nat) (L : List It) (hL : L.length ≤ 1000000) (hr : Items w0 h A L) : PCalls Tryz.prog w0 61 [.slice A L.length c] h fun r h' => r = wres (writtenM L) ∧ PH.Le h h' := by
  refine PCalls_body Tryz.func61 (by kernel_rfl) rfl _ Tryz.ntmps61 (by kernel_rfl) (by kernel_rfl) _ Tryz.results61 ?_
  simp -dsimp -implicitDefEqProofs (disch := first | omega | assumption | (simp only [Option.isSome_some,Qt0]; done) | (simp only [List.length_cons,List.length_nil,List.length_append,Int.toNat_natCast] <;> omega)) only [Nat.reduceLT,Nat.reduceLeDiff,Nat.reduceEqDiff,↓reduceIte,Int.reduceLT,Int.reduceLE,Int.reduceToNat,Int.reduceEq,Int.reduceNe,Nat.reduceAdd,Int.reduceAdd,Int.reduceSub,Int.reduceMul,Nat.reduceMul,Qp0,Ql0,Qe0]
  refine Does_zero el_u8 fun b0 hb0 => ?_
  simp -dsimp -implicitDefEqProofs (disch := first | omega | assumption | (simp only [Option.isSome_some,Qt0]; done) | (simp only [List.length_cons,List.length_nil,List.length_append,Int.toNat_natCast] <;> omega)) only [Nat.reduceLT,Nat.reduceLeDiff,Nat.reduceEqDiff,↓reduceIte,Int.reduceLT,Int.reduceLE,Int.reduceToNat,Int.reduceEq,Int.reduceNe,Nat.reduceAdd,Int.reduceAdd,Int.reduceSub,Int.reduceMul,Nat.reduceMul,Qp0,Ql0,Qe0]
  refine PW_loopL (fun n f h' => ∃ (i : Nat) (out : List UInt8) (v : Value), n + i = L.length ∧ f 0 = some (.slice A L.length c) ∧ f 5 = some v ∧ f 6 = some (.int .i64 i) ∧ out.length ≤ 65536 ∧ OwnS h h' 1 v out.length (bs out) ∧ (L.take i).foldl stepI ([], none) = (out, none)) (by kernel_rfl) L.length ⟨0, [], _, by omega, ?_, ?_, ?_, by simp, OwnS.zero 1 hb0, rfl⟩ ?_
  · simp -dsimp -implicitDefEqProofs (disch := first | omega | assumption | (simp only [Option.isSome_some,Qt0]; done) | (simp only [List.length_cons,List.length_nil,List.length_append,Int.toNat_natCast] <;> omega)) only [Nat.reduceLT,Nat.reduceLeDiff,Nat.reduceEqDiff,↓reduceIte,Int.reduceLT,Int.reduceLE,Int.reduceToNat,Int.reduceEq,Int.reduceNe,Nat.reduceAdd,Int.reduceAdd,Int.reduceSub,Int.reduceMul,Nat.reduceMul,Qp0,Ql0,Qe0]
  · simp -dsimp -implicitDefEqProofs (disch := first | omega | assumption | (simp only [Option.isSome_some,Qt0]; done) | (simp only [List.length_cons,List.length_nil,List.length_append,Int.toNat_natCast] <;> omega)) only [Nat.reduceLT,Nat.reduceLeDiff,Nat.reduceEqDiff,↓reduceIte,Int.reduceLT,Int.reduceLE,Int.reduceToNat,Int.reduceEq,Int.reduceNe,Nat.reduceAdd,Int.reduceAdd,Int.reduceSub,Int.reduceMul,Nat.reduceMul,Qp0,Ql0,Qe0]
  · simp -dsimp -implicitDefEqProofs (disch := first | omega | assumption | (simp only [Option.isSome_some,Qt0]; done) | (simp only [List.length_cons,List.length_nil,List.length_append,Int.toNat_natCast] <;> omega)) only [Nat.reduceLT,Nat.reduceLeDiff,Nat.reduceEqDiff,↓reduceIte,Int.reduceLT,Int.reduceLE,Int.reduceToNat,Int.reduceEq,Int.reduceNe,Nat.reduceAdd,Int.reduceAdd,Int.reduceSub,Int.reduceMul,Nat.reduceMul,Qp0,Ql0,Qe0]
    try rfl
  rintro n f h' ⟨i, out, v, hni, f0, f5, f6, hol, how, hW⟩ hl'
  obtain ⟨Ao, co, rfl, hco⟩ := how.own.len
  by_cases hi : i < L.length
  · have e1 : decide ((i : Int) < (L.length : Int)) = true := decide_eq_true (by omega)
    obtain ⟨x, hx⟩ : ∃ x, L[i]? = some x := ⟨_, List.getElem?_eq_getElem hi⟩
    obtain ⟨hxN, hxS, hxV, b, o, Ai, cap, rfl, hcap, hrv, hrd⟩ := hr i x hx
    have hrd := hrd h' how.le hl'
    have hB := rbytes_any x Ai cap hxN (by omega) (by omega) hcap w0 h' (hrv.more how.le)
    have hnext := writtenM_next hx
    rw [hW] at hnext
    unfold stepI at hnext
    simp only [Option.isSome_none, Bool.false_eq_true, if_false] at hnext
    cases hb : bytesI x with
    | none =>
      rw [hb] at hnext
      rw [writtenM_bad hnext rfl]
      have hg1 : (none : Option (List UInt8)).getD [] = [] := rfl
      have hg2 : (none : Option (List UInt8)).isSome = false := rfl
      rw [hb, hg1, hg2] at hB
      have hB := Lib.hid hB
      simp -dsimp -implicitDefEqProofs (disch := first | omega | assumption | (simp only [Option.isSome_some,Qt0]; done) | (simp only [List.length_cons,List.length_nil,List.length_append,Int.toNat_natCast] <;> omega)) only [Nat.reduceLT,Nat.reduceLeDiff,Nat.reduceEqDiff,↓reduceIte,Int.reduceLT,Int.reduceLE,Int.reduceToNat,Int.reduceEq,Int.reduceNe,Nat.reduceAdd,Int.reduceAdd,Int.reduceSub,Int.reduceMul,Nat.reduceMul,Qp0,Ql0,Qe0,f0,f5,f6,e1,hrd]
      refine hB.out.mono ?_
      rintro v hq ⟨rfl, hz⟩
      obtain rfl := hz.symm
      simp -dsimp -implicitDefEqProofs (disch := first | omega | assumption | (simp only [Option.isSome_some,Qt0]; done) | (simp only [List.length_cons,List.length_nil,List.length_append,Int.toNat_natCast] <;> omega)) only [Nat.reduceLT,Nat.reduceLeDiff,Nat.reduceEqDiff,↓reduceIte,Int.reduceLT,Int.reduceLE,Int.reduceToNat,Int.reduceEq,Int.reduceNe,Nat.reduceAdd,Int.reduceAdd,Int.reduceSub,Int.reduceMul,Nat.reduceMul,Qp0,Ql0,Qe0,f0,f5,f6]
      exact ⟨_, PH.Le.refl _, by first | rfl | trivial, how.le⟩
    | some y =>
      rw [hb] at hnext
      simp only at hnext
      unfold putM at hnext
      simp only [Option.isSome_none, Bool.false_eq_true, if_false] at hnext
      have hg1 : (some y : Option (List UInt8)).getD [] = y := rfl
      have hg2 : (some y : Option (List UInt8)).isSome = true := rfl
      rw [hb, hg1, hg2] at hB
      have hB := Lib.hid hB
      by_cases hlong : 65536 < out.length + y.length
      · rw [if_pos hlong] at hnext
        rw [writtenM_bad hnext rfl]
        have e2 : decide ((y.length : Int) > 65536 - (out.length : Int)) = true := decide_eq_true (by omega)
        simp -dsimp -implicitDefEqProofs (disch := first | omega | assumption | (simp only [Option.isSome_some,Qt0]; done) | (simp only [List.length_cons,List.length_nil,List.length_append,Int.toNat_natCast] <;> omega)) only [Nat.reduceLT,Nat.reduceLeDiff,Nat.reduceEqDiff,↓reduceIte,Int.reduceLT,Int.reduceLE,Int.reduceToNat,Int.reduceEq,Int.reduceNe,Nat.reduceAdd,Int.reduceAdd,Int.reduceSub,Int.reduceMul,Nat.reduceMul,Qp0,Ql0,Qe0,f0,f5,f6,e1,hrd]
        refine hB.out.mono ?_
        rintro v hq ⟨rfl, hz⟩
        obtain rfl := hz.symm
        simp -dsimp -implicitDefEqProofs (disch := first | omega | assumption | (simp only [Option.isSome_some,Qt0]; done) | (simp only [List.length_cons,List.length_nil,List.length_append,Int.toNat_natCast] <;> omega)) only [Nat.reduceLT,Nat.reduceLeDiff,Nat.reduceEqDiff,↓reduceIte,Int.reduceLT,Int.reduceLE,Int.reduceToNat,Int.reduceEq,Int.reduceNe,Nat.reduceAdd,Int.reduceAdd,Int.reduceSub,Int.reduceMul,Nat.reduceMul,Qp0,Ql0,Qe0,f0,f5,f6,e2]
        exact ⟨_, PH.Le.refl _, by first | rfl | trivial, how.le⟩
      · rw [if_neg hlong] at hnext
        have e2 : decide ((y.length : Int) > 65536 - (out.length : Int)) = false := decide_eq_false (by omega)
        simp -dsimp -implicitDefEqProofs (disch := first | omega | assumption | (simp only [Option.isSome_some,Qt0]; done) | (simp only [List.length_cons,List.length_nil,List.length_append,Int.toNat_natCast] <;> omega)) only [Nat.reduceLT,Nat.reduceLeDiff,Nat.reduceEqDiff,↓reduceIte,Int.reduceLT,Int.reduceLE,Int.reduceToNat,Int.reduceEq,Int.reduceNe,Nat.reduceAdd,Int.reduceAdd,Int.reduceSub,Int.reduceMul,Nat.reduceMul,Qp0,Ql0,Qe0,f0,f5,f6,e1,hrd]
        refine hB.out.mono ?_
        rintro v hq ⟨rfl, hz⟩
        obtain rfl := hz.symm
        simp -dsimp -implicitDefEqProofs (disch := first | omega | assumption | (simp only [Option.isSome_some,Qt0]; done) | (simp only [List.length_cons,List.length_nil,List.length_append,Int.toNat_natCast] <;> omega)) only [Nat.reduceLT,Nat.reduceLeDiff,Nat.reduceEqDiff,↓reduceIte,Int.reduceLT,Int.reduceLE,Int.reduceToNat,Int.reduceEq,Int.reduceNe,Nat.reduceAdd,Int.reduceAdd,Int.reduceSub,Int.reduceMul,Nat.reduceMul,Qp0,Ql0,Qe0,f0,f5,f6,e2]
        refine Does_appT el_u8 Tryz.underlying9 how.own (by omega) (fun v' h4 ho hst _ => ?_)
        rw [← List.length_append, ← bs_append] at ho
        simp -dsimp -implicitDefEqProofs (disch := first | omega | assumption | (simp only [Option.isSome_some,Qt0]; done) | (simp only [List.length_cons,List.length_nil,List.length_append,Int.toNat_natCast] <;> omega)) only [Nat.reduceLT,Nat.reduceLeDiff,Nat.reduceEqDiff,↓reduceIte,Int.reduceLT,Int.reduceLE,Int.reduceToNat,Int.reduceEq,Int.reduceNe,Nat.reduceAdd,Int.reduceAdd,Int.reduceSub,Int.reduceMul,Nat.reduceMul,Qp0,Ql0,Qe0,f0,f5,f6]
        exact ⟨n - 1, _, by omega, PH.Le.refl _, i + 1, out ++ y, v', by omega, by trivial, by trivial, by simp, by simp; omega, how.stays hst ho, hnext⟩
  · have e1 : decide ((i : Int) < (L.length : Int)) = false := decide_eq_false (by omega)
    have hW' : writtenM L = (out, none) := by unfold writtenM; rw [← hW, List.take_of_length_le (by omega)]
    rw [hW']
    simp -dsimp -implicitDefEqProofs (disch := first | omega | assumption | (simp only [Option.isSome_some,Qt0]; done) | (simp only [List.length_cons,List.length_nil,List.length_append,Int.toNat_natCast] <;> omega)) only [Nat.reduceLT,Nat.reduceLeDiff,Nat.reduceEqDiff,↓reduceIte,Int.reduceLT,Int.reduceLE,Int.reduceToNat,Int.reduceEq,Int.reduceNe,Nat.reduceAdd,Int.reduceAdd,Int.reduceSub,Int.reduceMul,Nat.reduceMul,Qp0,Ql0,Qe0,f0,f5,f6,e1]
    refine vtext_own Tryz.underlying74 Tryz.underlying5 Tryz.underlying9 (Rs.own how.own) how.own.nil_zero ?_
    simp -dsimp -implicitDefEqProofs (disch := first | omega | assumption | (simp only [Option.isSome_some,Qt0]; done) | (simp only [List.length_cons,List.length_nil,List.length_append,Int.toNat_natCast] <;> omega)) only [Nat.reduceLT,Nat.reduceLeDiff,Nat.reduceEqDiff,↓reduceIte,Int.reduceLT,Int.reduceLE,Int.reduceToNat,Int.reduceEq,Int.reduceNe,Nat.reduceAdd,Int.reduceAdd,Int.reduceSub,Int.reduceMul,Nat.reduceMul,Qp0,Ql0,Qe0,f0,f5,f6]
    exact ⟨_, PH.Le.refl _, by first | rfl | trivial, how.le⟩
end Go.Proofs.YtdlaoeepeakpeaaGreat


/- Rows of items. No condition. -/
namespace Go.Proofs.YtdlaoeepeakpeaaGreat
set_option linter.unusedVariables false
set_option linter.unusedSimpArgs false
open Go.RowKit Px Wr
theorem info_it : (Tryz.prog.info? 117).map (fun i => (i.zero, i.size, i.bytes)) = some (some (.agg #[.int .i64 0, .int .i64 0, .string ⟨#[]⟩, .bool false, .slice none 0 0]), 5, 64) := by kernel_rfl
theorem el_it : El Tryz.prog 118 117 (.agg #[.int .i64 0, .int .i64 0, .string ⟨#[]⟩, .bool false, .slice none 0 0]) 5 64 := ⟨Tryz.underlying118, info_parts info_it, rfl, by decide⟩
theorem flat_chunk {α : Type} (g : α → List Value) (m : Nat) (hg : ∀ a, (g a).length = m) : ∀ (L : List α) (i : Nat) (a : α), L[i]? = some a → ((L.flatMap g).drop (i * m)).take m = g a ∧ i * m + m ≤ (L.flatMap g).length
  | [], i, a, h => by simp at h
  | x :: L, 0, a, h => by
    simp at h
    subst h
    have := hg x
    simp only [List.flatMap_cons, Nat.zero_mul, List.drop_zero, List.length_append]
    exact ⟨by rw [← this, List.take_left], by omega⟩
  | x :: L, i + 1, a, h => by
    obtain ⟨h1, h2⟩ := flat_chunk g m hg L i a (by simpa using h)
    have := hg x
    simp only [List.flatMap_cons, List.length_append]
    refine ⟨?_, by rw [Nat.add_mul]; omega⟩
    rw [← h1, show (i + 1) * m = (g x).length + i * m by rw [this, Nat.add_mul]; omega, ← List.drop_drop, List.drop_left]
theorem itL_length (p : It × Option Addr × Nat) : (itL p.1 p.2.1 p.2.2).length = 5 := rfl
theorem Items.lit {w0 : World} {h : PH} {lb lim : Nat} (Ls : List (It × Option Addr × Nat)) (hm : h.m lb = some ⟨Ls.flatMap fun p => itL p.1 p.2.1 p.2.2, lim⟩)
    (hb : ∀ p ∈ Ls, p.1.N ≤ 9223372036854775807 ∧ p.1.S.length ≤ 900000 ∧ p.1.V.length ≤ 900000 ∧ p.1.V.length ≤ p.2.2 ∧ Rv w0 h p.2.1 (ints p.1.V)) : Items w0 h (some ⟨lb, 0, none⟩) (Ls.map (·.1)) := fun i x hx => by
  rw [List.getElem?_map] at hx
  obtain ⟨p, hp, rfl⟩ := Option.map_eq_some_iff.1 hx
  obtain ⟨h1, h2, h3, h4, h5⟩ := hb p (List.mem_of_getElem? hp)
  refine ⟨h1, h2, h3, lb, 0, p.2.1, p.2.2, rfl, h4, h5, fun h' hl _ => ?_⟩
  obtain ⟨g1, g2⟩ := flat_chunk (fun p : It × Option Addr × Nat => itL p.1 p.2.1 p.2.2) 5 itL_length Ls i p hp
  unfold rdN
  simp only [hl.m _ _ hm]
  rw [if_pos ⟨trivial, by simpa using g2⟩, Nat.zero_add, g1]
def tI (y : List UInt8) : It := ⟨1, 0, y, false, []⟩
def nI (n : Int) : It := ⟨0, n, [], false, []⟩
def fI (b : Bool) : It := ⟨2, 0, [], b, []⟩
def vI (v : List Int) : It := ⟨3, 0, [], false, v⟩
theorem step_t (s : WS) (y : List UInt8) : stepI s (tI y) = textM s y := by rw [← itemM_eq]; rfl
theorem step_n (s : WS) (n : Int) : stepI s (nI n) = numM s n := by rw [← itemM_eq]; rfl
theorem step_f (s : WS) (b : Bool) : stepI s (fI b) = flagM s b := by rw [← itemM_eq]; rfl
theorem step_v (s : WS) (v : List Int) : stepI s (vI v) = vecM s v := by rw [← itemM_eq]; rfl
end Go.Proofs.YtdlaoeepeakpeaaGreat


/- The document's bytes of claims and of writes. No condition. -/
namespace Go.Proofs.YtdlaoeepeakpeaaGreat
set_option linter.unusedVariables false
set_option linter.unusedSimpArgs false
open Go.RowKit Px Wr
set_option maxRecDepth 20000 in
set_option maxHeartbeats 4000000 in
theorem bytesC_any (w0 : World) (h : PH) (c : Cl) (A : Option Addr) (cap : Nat) (hr : Rv w0 h A (ints c.x)) (hc : c.x.length ≤ cap) (hb : rightC c = true) : PCalls Tryz.prog w0 38 [.agg (clL c A cap).toArray] h fun r h' => r = str (bytesC c) ∧ PH.Le h h' := by
  have hri := rightC_iff.1 hb
  have hx := trim_len (hri.2.2.2.2.2.2.2)
  refine PCalls_body Tryz.func38 (by kernel_rfl) rfl _ Tryz.ntmps38 (by kernel_rfl) (by kernel_rfl) _ Tryz.results38 ?_
  unfold clL
  simp -dsimp -implicitDefEqProofs (disch := first | omega | assumption | (simp only [Option.isSome_some,Qt0]; done) | (simp only [List.length_cons,List.length_nil,List.length_append,Int.toNat_natCast] <;> omega)) only [Nat.reduceLT,Nat.reduceLeDiff,Nat.reduceEqDiff,↓reduceIte,Int.reduceLT,Int.reduceLE,Int.reduceToNat,Int.reduceEq,Int.reduceNe,Nat.reduceAdd,Int.reduceAdd,Int.reduceSub,Int.reduceMul,Nat.reduceMul,Qp0,Ql0,Qe0]
  refine fun pb hpb => ?_
  have hle := (PH.Le.refl h).new pb ⟨[str c.s, str c.u, .int .i64 c.e, .int .i64 c.i, .int .i64 c.k, .slice A c.x.length cap], 6⟩ hpb
  have hp : (h.new pb ⟨[str c.s, str c.u, .int .i64 c.e, .int .i64 c.i, .int .i64 c.k, .slice A c.x.length cap], 6⟩).m pb = some ⟨[str c.s, str c.u, .int .i64 c.e, .int .i64 c.i, .int .i64 c.k, .slice A c.x.length cap], 6⟩ := by rw [PH.new_m, if_pos rfl]
  have hr1 := hr.more hle
  simp -dsimp -implicitDefEqProofs (disch := first | omega | assumption | (simp only [Option.isSome_some,Qt0]; done) | (simp only [List.length_cons,List.length_nil,List.length_append,Int.toNat_natCast] <;> omega)) only [Nat.reduceLT,Nat.reduceLeDiff,Nat.reduceEqDiff,↓reduceIte,Int.reduceLT,Int.reduceLE,Int.reduceToNat,Int.reduceEq,Int.reduceNe,Nat.reduceAdd,Int.reduceAdd,Int.reduceSub,Int.reduceMul,Nat.reduceMul,Qp0,Ql0,Qe0]
  generalize h.new pb ⟨[str c.s, str c.u, .int .i64 c.e, .int .i64 c.i, .int .i64 c.k, .slice A c.x.length cap], 6⟩ = h1 at *
  simp -dsimp -implicitDefEqProofs (disch := first | omega | assumption | (simp only [Option.isSome_some,Qt0]; done) | (simp only [List.length_cons,List.length_nil,List.length_append,Int.toNat_natCast] <;> omega)) only [Nat.reduceLT,Nat.reduceLeDiff,Nat.reduceEqDiff,↓reduceIte,Int.reduceLT,Int.reduceLE,Int.reduceToNat,Int.reduceEq,Int.reduceNe,Nat.reduceAdd,Int.reduceAdd,Int.reduceSub,Int.reduceMul,Nat.reduceMul,Qp0,Ql0,Qe0,rd_M,rdM_some,hp]
  refine Does_lit (vs := [.agg (itL (tI c.s) none 0).toArray, .agg (itL (tI c.u) none 0).toArray, .agg (itL (nI c.e) none 0).toArray, .agg (itL (nI c.i) none 0).toArray, .agg (itL (nI c.k) none 0).toArray, .agg (itL (vI c.x) A cap).toArray]) (sz := 5) (n := 6) el_it rfl rfl (by simp [cellsL, Value.cells, itL]) (by omega) (by omega) (fun lb hlb => ?_)
  have hl2 := (PH.Le.refl h1).new lb ⟨[.agg (itL (tI c.s) none 0).toArray, .agg (itL (tI c.u) none 0).toArray, .agg (itL (nI c.e) none 0).toArray, .agg (itL (nI c.i) none 0).toArray, .agg (itL (nI c.k) none 0).toArray, .agg (itL (vI c.x) A cap).toArray].flatMap cellsL, 6 * 5⟩ hlb
  have hm2 : (h1.new lb ⟨[.agg (itL (tI c.s) none 0).toArray, .agg (itL (tI c.u) none 0).toArray, .agg (itL (nI c.e) none 0).toArray, .agg (itL (nI c.i) none 0).toArray, .agg (itL (nI c.k) none 0).toArray, .agg (itL (vI c.x) A cap).toArray].flatMap cellsL, 6 * 5⟩).m lb = some ⟨[(tI c.s, none, 0), (tI c.u, none, 0), (nI c.e, none, 0), (nI c.i, none, 0), (nI c.k, none, 0), (vI c.x, A, cap)].flatMap fun p : It × Option Addr × Nat => itL p.1 p.2.1 p.2.2, 6 * 5⟩ := by rw [PH.new_m, if_pos rfl]; rfl
  generalize h1.new lb ⟨[.agg (itL (tI c.s) none 0).toArray, .agg (itL (tI c.u) none 0).toArray, .agg (itL (nI c.e) none 0).toArray, .agg (itL (nI c.i) none 0).toArray, .agg (itL (nI c.k) none 0).toArray, .agg (itL (vI c.x) A cap).toArray].flatMap cellsL, 6 * 5⟩ = h2 at *
  have hI := Items.lit (w0 := w0) _ hm2 (fun p hp => by
    simp only [List.mem_cons, List.not_mem_nil, or_false] at hp
    rcases hp with rfl | rfl | rfl | rfl | rfl | rfl
    all_goals
      simp only [tI, nI, fI, vI, List.length_nil]
      refine ⟨by omega, by omega, by omega, by omega, ?_⟩
      first | exact Rv.nil _ _ _ | exact hr1.more hl2)
  have hW := written_any w0 h2 _ 6 _ (by simp) hI
  have hch : writtenM [tI c.s, tI c.u, nI c.e, nI c.i, nI c.k, vI c.x] = (bytesC c, none) := by
    unfold writtenM
    simp only [List.foldl_cons, List.foldl_nil, step_t, step_n, step_f, step_v]
    exact encC_chain hb
  simp only [List.map_cons, List.map_nil, List.length_cons, List.length_nil, Nat.zero_add, Nat.reduceAdd, hch] at hW
  have hW := Lib.hid hW
  simp -dsimp -implicitDefEqProofs (disch := first | omega | assumption | (simp only [Option.isSome_some,Qt0]; done) | (simp only [List.length_cons,List.length_nil,List.length_append,Int.toNat_natCast] <;> omega)) only [Nat.reduceLT,Nat.reduceLeDiff,Nat.reduceEqDiff,↓reduceIte,Int.reduceLT,Int.reduceLE,Int.reduceToNat,Int.reduceEq,Int.reduceNe,Nat.reduceAdd,Int.reduceAdd,Int.reduceSub,Int.reduceMul,Nat.reduceMul,Qp0,Ql0,Qe0]
  refine hW.out.mono ?_
  rintro v q ⟨hv, hl3⟩
  have hv : v = .tuple #[str (bytesC c), .int .i64 0, .int .i64 0] := by
    rw [hv]
    first | rw [hch] | (show wres (writtenM [tI c.s, tI c.u, nI c.e, nI c.i, nI c.k, vI c.x]) = _; rw [hch])
    rfl
  subst hv
  simp -dsimp -implicitDefEqProofs (disch := first | omega | assumption | (simp only [Option.isSome_some,Qt0]; done) | (simp only [List.length_cons,List.length_nil,List.length_append,Int.toNat_natCast] <;> omega)) only [Nat.reduceLT,Nat.reduceLeDiff,Nat.reduceEqDiff,↓reduceIte,Int.reduceLT,Int.reduceLE,Int.reduceToNat,Int.reduceEq,Int.reduceNe,Nat.reduceAdd,Int.reduceAdd,Int.reduceSub,Int.reduceMul,Nat.reduceMul,Qp0,Ql0,Qe0]
  exact ⟨_, PH.Le.refl _, by first | rfl | trivial, (hle.trans hl2).trans hl3⟩
end Go.Proofs.YtdlaoeepeakpeaaGreat


/- What is read as claims: the plain law. No condition. -/
namespace Go.Proofs.YtdlaoeepeakpeaaGreat
set_option linter.unusedVariables false
set_option linter.unusedSimpArgs false
open Go.RowKit Px Wr
theorem step_back {α : Type} {p : List UInt8 → Option (α × List UInt8)} {z a : α} {n : Nat} {st : St} {u : List UInt8} (h : st.step p z n = (a, .ok u)) : ∃ t, st = .ok t ∧ p t = some (a, u) := by
  cases st with
  | bad q => simp [St.step] at h
  | ok t =>
    refine ⟨t, rfl, ?_⟩
    unfold St.step at h
    cases hp : p t with
    | none => simp [hp] at h
    | some q =>
      obtain ⟨b, v⟩ := q
      simp [hp] at h
      rw [h.1, h.2]
theorem numS_back {m : Int} {n x : Nat} {st : St} {u : List UInt8} (h : numS m n st = (x, .ok u)) : st = .ok (numB x ++ u) ∧ x ≤ 4611686018427387903 := by
  obtain ⟨t, h1, h2⟩ := step_back h
  obtain ⟨h3, _, h4⟩ := numP_inv h2
  exact ⟨by rw [h1, h3], h4⟩
theorem txtS_back {m : Int} {n : Nat} {y : List UInt8} {st : St} {u : List UInt8} (h : txtS m n st = (y, .ok u)) : st = .ok (textB y ++ u) := by
  obtain ⟨t, h1, h2⟩ := step_back h
  rw [h1, (txtP_inv h2).1]; rfl
theorem flagS_back {n : Nat} {b : Bool} {st : St} {u : List UInt8} (h : flagS n st = (b, .ok u)) : st = .ok (flagB b ++ u) := by
  obtain ⟨t, h1, h2⟩ := step_back h
  rw [h1, flagP_inv h2]
theorem vecS_back {n : Nat} {v : List Int} {st : St} {u : List UInt8} (h : vecS n st = (v, .ok u)) : st = .ok (vecB v ++ u) ∧ trim v 1099511627776 = true := by
  obtain ⟨t, h1, h2⟩ := step_back h
  obtain ⟨h3, h4⟩ := vecP_inv h2
  exact ⟨by rw [h1, h3], h4⟩
theorem numS_fwd {m : Int} {n : Nat} {x : Int} {u : List UInt8} (h0 : 0 ≤ x) (h1 : x ≤ m) (h2 : x ≤ 1099511627776) : numS m n (.ok (numB x.toNat ++ u)) = (x.toNat, .ok u) :=
  numS_ok n (numP_put u (by omega) (by unfold top62; omega))
theorem txtS_fwd {m : Int} {n : Nat} {y u : List UInt8} (h1 : (y.length : Int) ≤ m) (h2 : y.length ≤ 1000) : txtS m n (.ok (textB y ++ u)) = (y, .ok u) := by
  have := txtP_put u h1 (by unfold top62; omega)
  unfold txtS St.step textB
  simp only [this]
theorem flagS_fwd {n : Nat} {b : Bool} {u : List UInt8} : flagS n (.ok (flagB b ++ u)) = (b, .ok u) := by
  unfold flagS St.step; simp only [flagP_put]
theorem vecS_fwd {n : Nat} {v : List Int} {u : List UInt8} (h : trim v 1099511627776 = true) : vecS n (.ok (vecB v ++ u)) = (v, .ok u) := by
  have := vecP_put u h
  unfold vecS St.step; simp only [this]
/-- The claims whose bytes these are. -/
def IsC (s : List UInt8) (c : Cl) : Prop := rightC c = true ∧ s = bytesC c
def IsW (s : List UInt8) (c : Wt) : Prop := rightW c = true ∧ s = bytesW c
structure ChC (m1 m2 m3 : Int) (n : Nat) (s : List UInt8) (x1 x2 : List UInt8) (x3 x4 x5 : Nat) (x6 : List Int) (s1 s2 s3 s4 s5 s6 : St) : Prop where
  e1 : (x1, s1) = txtS m1 n (.ok s)
  e2 : (x2, s2) = txtS m2 n s1
  e3 : (x3, s3) = numS m3 n s2
  e4 : (x4, s4) = numS m3 n s3
  e5 : (x5, s5) = numS m3 n s4
  e6 : (x6, s6) = vecS n s5
theorem ChC.back {m1 m2 m3 : Int} {n : Nat} {s x1 x2 : List UInt8} {x3 x4 x5 : Nat} {x6 : List Int} {s1 s2 s3 s4 s5 s6 : St} (c : ChC m1 m2 m3 n s x1 x2 x3 x4 x5 x6 s1 s2 s3 s4 s5 s6) (h : s6 = .ok []) : s = bytesC ⟨x1, x2, x3, x4, x5, x6⟩ := by
  subst h
  obtain ⟨rfl, h6⟩ := vecS_back c.e6.symm
  obtain ⟨rfl, h5⟩ := numS_back c.e5.symm
  obtain ⟨rfl, h4⟩ := numS_back c.e4.symm
  obtain ⟨rfl, h3⟩ := numS_back c.e3.symm
  have := txtS_back c.e2.symm
  subst this
  have := txtS_back c.e1.symm
  injection this with this
  rw [this]
  unfold bytesC
  simp
theorem ChC.fwd {m1 m2 m3 : Int} {n : Nat} {s x1 x2 : List UInt8} {x3 x4 x5 : Nat} {x6 : List Int} {s1 s2 s3 s4 s5 s6 : St} (c : ChC m1 m2 m3 n s x1 x2 x3 x4 x5 x6 s1 s2 s3 s4 s5 s6) (h1 : 64 ≤ m1) (h2 : 32 ≤ m2) (h3 : 1099511627776 ≤ m3) {d : Cl} (hd : IsC s d) : d = ⟨x1, x2, x3, x4, x5, x6⟩ ∧ s6 = .ok [] := by
  obtain ⟨hr, rfl⟩ := hd
  obtain ⟨r1, r2, r3, r4, ⟨r5, r6⟩, ⟨r7, r8⟩, ⟨r9, r10⟩, r11⟩ := rightC_iff.1 hr
  have e1 := c.e1
  unfold bytesC at e1
  rw [txtS_fwd (by omega) (by omega)] at e1
  injection e1 with a1 b1
  have e2 := c.e2
  rw [b1, txtS_fwd (by omega) (by omega)] at e2
  injection e2 with a2 b2
  have e3 := c.e3
  rw [b2, numS_fwd r5 (by omega) (by omega)] at e3
  injection e3 with a3 b3
  have e4 := c.e4
  rw [b3, numS_fwd r7 (by omega) (by omega)] at e4
  injection e4 with a4 b4
  have e5 := c.e5
  rw [b4, numS_fwd r9 (by omega) (by omega)] at e5
  injection e5 with a5 b5
  have e6 := c.e6
  rw [b5, ← List.append_nil (vecB d.x), vecS_fwd r11] at e6
  injection e6 with a6 b6
  exact ⟨Cl.ext' a1.symm a2.symm (by rw [a3]; simp only; omega) (by rw [a4]; simp only; omega) (by rw [a5]; simp only; omega) a6.symm, b6⟩
structure ChW (m1 m2 m3 m4 m5 : Int) (n : Nat) (s : List UInt8) (x1 x2 x3 : Nat) (x4 : List Int) (x5 x6 : List UInt8) (x7 : Bool) (x8 : List UInt8) (x9 : Nat) (s1 s2 s3 s4 s5 s6 s7 s8 s9 : St) : Prop where
  e1 : (x1, s1) = numS m1 n (.ok s)
  e2 : (x2, s2) = numS m2 n s1
  e3 : (x3, s3) = numS m2 n s2
  e4 : (x4, s4) = vecS n s3
  e5 : (x5, s5) = txtS m3 n s4
  e6 : (x6, s6) = txtS m4 n s5
  e7 : (x7, s7) = flagS n s6
  e8 : (x8, s8) = txtS m5 n s7
  e9 : (x9, s9) = numS m2 n s8
section
variable {m1 m2 m3 m4 m5 : Int} {n : Nat} {s : List UInt8} {x1 x2 x3 : Nat} {x4 : List Int} {x5 x6 : List UInt8} {x7 : Bool} {x8 : List UInt8} {x9 : Nat} {s1 s2 s3 s4 s5 s6 s7 s8 s9 : St}
theorem ChW.back (c : ChW m1 m2 m3 m4 m5 n s x1 x2 x3 x4 x5 x6 x7 x8 x9 s1 s2 s3 s4 s5 s6 s7 s8 s9) (h : s9 = .ok []) : s = bytesW ⟨x1, x2, x3, x1, x4, x5, x6, x8, x7, x9⟩ := by
  subst h
  obtain ⟨rfl, _⟩ := numS_back c.e9.symm
  have := txtS_back c.e8.symm
  subst this
  have := flagS_back c.e7.symm
  subst this
  have := txtS_back c.e6.symm
  subst this
  have := txtS_back c.e5.symm
  subst this
  obtain ⟨rfl, _⟩ := vecS_back c.e4.symm
  obtain ⟨rfl, _⟩ := numS_back c.e3.symm
  obtain ⟨rfl, _⟩ := numS_back c.e2.symm
  obtain ⟨h1, _⟩ := numS_back c.e1.symm
  injection h1 with h1
  rw [h1]
  unfold bytesW
  simp
theorem ChW.fwd (c : ChW m1 m2 m3 m4 m5 n s x1 x2 x3 x4 x5 x6 x7 x8 x9 s1 s2 s3 s4 s5 s6 s7 s8 s9) (h1 : 16 ≤ m1) (h2 : 1099511627776 ≤ m2) (h3 : 64 ≤ m3) (h4 : 32 ≤ m4) (h5 : 128 ≤ m5) {d : Wt} (hd : IsW s d) : d = ⟨x1, x2, x3, x1, x4, x5, x6, x8, x7, x9⟩ ∧ s9 = .ok [] := by
  obtain ⟨hr, rfl⟩ := hd
  obtain ⟨r1, r2, ⟨r3, r4⟩, r5, ⟨r6, r7⟩, r8, r9, r10, r11, r12, _, ⟨r13, r14⟩⟩ := rightW_iff.1 hr
  have e1 := c.e1
  unfold bytesW at e1
  rw [numS_fwd (by omega) (by omega) (by omega)] at e1
  injection e1 with a1 b1
  have e2 := c.e2
  rw [b1, numS_fwd (by omega) (by omega) (by omega)] at e2
  injection e2 with a2 b2
  have e3 := c.e3
  rw [b2, numS_fwd (by omega) (by omega) (by omega)] at e3
  injection e3 with a3 b3
  have e4 := c.e4
  rw [b3, vecS_fwd r8] at e4
  injection e4 with a4 b4
  have e5 := c.e5
  rw [b4, txtS_fwd (by omega) (by omega)] at e5
  injection e5 with a5 b5
  have e6 := c.e6
  rw [b5, txtS_fwd (by omega) (by omega)] at e6
  injection e6 with a6 b6
  have e7 := c.e7
  rw [b6, flagS_fwd] at e7
  injection e7 with a7 b7
  have e8 := c.e8
  rw [b7, txtS_fwd (by omega) (by omega)] at e8
  injection e8 with a8 b8
  have e9 := c.e9
  rw [b8, ← List.append_nil (numB d.l.toNat), numS_fwd (by omega) (by omega) (by omega)] at e9
  injection e9 with a9 b9
  exact ⟨Wt.ext' (by rw [a1]; simp only; omega) (by rw [a2]; simp only; omega) (by rw [a3]; simp only; omega) (by rw [a1]; simp only; omega) a4.symm a5.symm a6.symm a8.symm a7.symm (by rw [a9]; simp only; omega), b9⟩
end
def clZ : Cl := ⟨[], [], 0, 0, 0, []⟩
/-- .. and the document's reader. -/
def REC (w0 : World) (h : PH) (s : List UInt8) (v : Value) : Prop :=
  (∃ c A cap, IsC s c ∧ v = .tuple #[.agg (clL c A cap).toArray, .bool true] ∧ c.x.length ≤ cap ∧ Rv w0 h A (ints c.x)) ∨ ((∀ c, ¬ IsC s c) ∧ v = .tuple #[.agg (clL clZ none 0).toArray, .bool false])
end Go.Proofs.YtdlaoeepeakpeaaGreat


/- Walks: DecodeClaims. No condition. -/
namespace Go.Proofs.YtdlaoeepeakpeaaGreat
set_option linter.unusedVariables false
set_option linter.unusedSimpArgs false
open Go.RowKit Px Wr
theorem Px.OwnC.rv {F : Nat → Prop} {w0 : World} {h0 h : PH} {A : Option Addr} {n c : Nat} {xs : List Value} (o : OwnC F h0 h 1 (.slice A n c) n xs) : Rv w0 h A xs := Rv.own o.own
theorem EE_told {h : PH} {n : Nat} {st : St} {v : Value} (e : EE h n st v) : (st = .ok [] ∧ v = .nilIface) ∨ (st ≠ .ok [] ∧ ∃ be p, v = errV be ∧ h.m be = some ⟨[str wireT, .int .i64 p, codeV 2], 3⟩) := by
  cases st with
  | bad p => obtain ⟨be, h1, h2⟩ := e; exact .inr ⟨by simp, be, _, h1, h2⟩
  | ok t =>
    cases t with
    | nil => exact .inl ⟨rfl, e⟩
    | cons c t => obtain ⟨be, h1, h2⟩ := e; exact .inr ⟨by simp, be, _, h1, h2⟩
theorem vecS_len {n : Nat} {v : List Int} {st st' : St} (h : (v, st') = vecS n st) : v.length ≤ 16 := by
  cases st with
  | bad p => injection h with h _; rw [h]; simp
  | ok t =>
    cases hp : vecP t with
    | none => unfold vecS St.step at h; simp only [hp] at h; injection h with h _; rw [h]; simp
    | some q =>
      obtain ⟨a, u⟩ := q
      unfold vecS St.step at h; simp only [hp] at h; injection h with h _; rw [h]
      exact trim_len (vecP_inv hp).2
/-- What Decode tells; the vector lies in what is new. -/
def DECF (w0 : World) (h0 h : PH) (s : List UInt8) (v : Value) : Prop :=
  (∃ c A cap, IsC s c ∧ v = .tuple #[.agg (clL c A cap).toArray, .nilIface] ∧ c.x.length ≤ cap ∧ Rv w0 h A (ints c.x) ∧ ∀ a, A = some a → h0.top ≤ a.block) ∨ ((∀ c, ¬ IsC s c) ∧ ∃ ev e, v = .tuple #[.agg (clL clZ none 0).toArray, ev] ∧ EV h e ev ∧ e.num = 2)
set_option maxRecDepth 20000 in
set_option maxHeartbeats 4000000 in
theorem decCF_any (s : List UInt8) (hs : s.length ≤ 1000000000) (w0 : World) (h : PH) : PCalls Tryz.prog w0 29 [str s] h fun r h' => DECF w0 h h' s r ∧ PH.Le h h' := by
  refine PCalls_body Tryz.func29 (by kernel_rfl) rfl _ Tryz.ntmps29 (by kernel_rfl) (by kernel_rfl) _ Tryz.results29 ?_
  simp -dsimp -implicitDefEqProofs (disch := first | omega | assumption | (simp only [Option.isSome_some,Qt0]; done) | (simp only [List.length_cons,List.length_nil,List.length_append,Int.toNat_natCast] <;> omega)) only [Nat.reduceLT,Nat.reduceLeDiff,Nat.reduceEqDiff,↓reduceIte,Int.reduceLT,Int.reduceLE,Int.reduceToNat,Int.reduceEq,Int.reduceNe,Nat.reduceAdd,Int.reduceAdd,Int.reduceSub,Int.reduceMul,Nat.reduceMul,Qp0,Ql0,Qe0]
  refine fun rb hrb => ?_
  have hle := (PH.Le.refl h).new rb ⟨[.string ⟨#[]⟩, .string ⟨#[]⟩, .int .i64 0, .int .i64 0, .int .i64 0, .slice none 0 0], 6⟩ hrb
  have hm : (h.new rb ⟨[.string ⟨#[]⟩, .string ⟨#[]⟩, .int .i64 0, .int .i64 0, .int .i64 0, .slice none 0 0], 6⟩).m rb = some ⟨[.string ⟨#[]⟩, .string ⟨#[]⟩, .int .i64 0, .int .i64 0, .int .i64 0, .slice none 0 0], 6⟩ := by rw [PH.new_m, if_pos rfl]
  simp -dsimp -implicitDefEqProofs (disch := first | omega | assumption | (simp only [Option.isSome_some,Qt0]; done) | (simp only [List.length_cons,List.length_nil,List.length_append,Int.toNat_natCast] <;> omega)) only [Nat.reduceLT,Nat.reduceLeDiff,Nat.reduceEqDiff,↓reduceIte,Int.reduceLT,Int.reduceLE,Int.reduceToNat,Int.reduceEq,Int.reduceNe,Nat.reduceAdd,Int.reduceAdd,Int.reduceSub,Int.reduceMul,Nat.reduceMul,Qp0,Ql0,Qe0]
  generalize h.new rb ⟨[.string ⟨#[]⟩, .string ⟨#[]⟩, .int .i64 0, .int .i64 0, .int .i64 0, .slice none 0 0], 6⟩ = h1 at *
  refine (read_any w0 h1 s).mono ?_
  rintro v h2 ⟨ib, rfl, hib, hl2, hi⟩
  have hm2 := hl2.m _ _ hm
  have hle2 := hle.trans hl2
  have hne : rb ≠ ib := by have := h1.lt _ _ hm; omega
  have hc0 := Chg.refl (· = ib) h2
  simp -dsimp -implicitDefEqProofs (disch := first | omega | assumption | (simp only [Option.isSome_some,Qt0]; done) | (simp only [List.length_cons,List.length_nil,List.length_append,Int.toNat_natCast] <;> omega)) only [Nat.reduceLT,Nat.reduceLeDiff,Nat.reduceEqDiff,↓reduceIte,Int.reduceLT,Int.reduceLE,Int.reduceToNat,Int.reduceEq,Int.reduceNe,Nat.reduceAdd,Int.reduceAdd,Int.reduceSub,Int.reduceMul,Nat.reduceMul,Qp0,Ql0,Qe0]
  refine (itext_any w0 _ ib s hs 64 _ hi).mono ?_
  rintro v q1 ⟨rfl, hi, hc1⟩
  obtain ⟨⟨x1, s1⟩, e1⟩ : ∃ p, p = txtS 64 s.length (.ok s) := ⟨_, rfl⟩
  rw [← e1] at hi
  rw [← e1]
  simp only at hi
  simp -dsimp -implicitDefEqProofs (disch := first | omega | assumption | (simp only [Option.isSome_some,Qt0]; done) | (simp only [List.length_cons,List.length_nil,List.length_append,Int.toNat_natCast] <;> omega)) only [Nat.reduceLT,Nat.reduceLeDiff,Nat.reduceEqDiff,↓reduceIte,Int.reduceLT,Int.reduceLE,Int.reduceToNat,Int.reduceEq,Int.reduceNe,Nat.reduceAdd,Int.reduceAdd,Int.reduceSub,Int.reduceMul,Nat.reduceMul,Qp0,Ql0,Qe0]
  refine (itext_any w0 _ ib s hs 32 _ hi).mono ?_
  rintro v q2 ⟨rfl, hi, hc2⟩
  obtain ⟨⟨x2, s2⟩, e2⟩ : ∃ p, p = txtS 32 s.length s1 := ⟨_, rfl⟩
  rw [← e2] at hi
  rw [← e2]
  simp only at hi
  simp -dsimp -implicitDefEqProofs (disch := first | omega | assumption | (simp only [Option.isSome_some,Qt0]; done) | (simp only [List.length_cons,List.length_nil,List.length_append,Int.toNat_natCast] <;> omega)) only [Nat.reduceLT,Nat.reduceLeDiff,Nat.reduceEqDiff,↓reduceIte,Int.reduceLT,Int.reduceLE,Int.reduceToNat,Int.reduceEq,Int.reduceNe,Nat.reduceAdd,Int.reduceAdd,Int.reduceSub,Int.reduceMul,Nat.reduceMul,Qp0,Ql0,Qe0]
  refine (inum_any w0 _ ib s hs 1099511627776 _ hi).mono ?_
  rintro v q3 ⟨rfl, hi, hc3⟩
  obtain ⟨⟨x3, s3⟩, e3⟩ : ∃ p, p = numS 1099511627776 s.length s2 := ⟨_, rfl⟩
  rw [← e3] at hi
  rw [← e3]
  simp only at hi
  simp -dsimp -implicitDefEqProofs (disch := first | omega | assumption | (simp only [Option.isSome_some,Qt0]; done) | (simp only [List.length_cons,List.length_nil,List.length_append,Int.toNat_natCast] <;> omega)) only [Nat.reduceLT,Nat.reduceLeDiff,Nat.reduceEqDiff,↓reduceIte,Int.reduceLT,Int.reduceLE,Int.reduceToNat,Int.reduceEq,Int.reduceNe,Nat.reduceAdd,Int.reduceAdd,Int.reduceSub,Int.reduceMul,Nat.reduceMul,Qp0,Ql0,Qe0]
  refine (inum_any w0 _ ib s hs 1099511627776 _ hi).mono ?_
  rintro v q4 ⟨rfl, hi, hc4⟩
  obtain ⟨⟨x4, s4⟩, e4⟩ : ∃ p, p = numS 1099511627776 s.length s3 := ⟨_, rfl⟩
  rw [← e4] at hi
  rw [← e4]
  simp only at hi
  simp -dsimp -implicitDefEqProofs (disch := first | omega | assumption | (simp only [Option.isSome_some,Qt0]; done) | (simp only [List.length_cons,List.length_nil,List.length_append,Int.toNat_natCast] <;> omega)) only [Nat.reduceLT,Nat.reduceLeDiff,Nat.reduceEqDiff,↓reduceIte,Int.reduceLT,Int.reduceLE,Int.reduceToNat,Int.reduceEq,Int.reduceNe,Nat.reduceAdd,Int.reduceAdd,Int.reduceSub,Int.reduceMul,Nat.reduceMul,Qp0,Ql0,Qe0]
  refine (inum_any w0 _ ib s hs 1099511627776 _ hi).mono ?_
  rintro v q5 ⟨rfl, hi, hc5⟩
  obtain ⟨⟨x5, s5⟩, e5⟩ : ∃ p, p = numS 1099511627776 s.length s4 := ⟨_, rfl⟩
  rw [← e5] at hi
  rw [← e5]
  simp only at hi
  simp -dsimp -implicitDefEqProofs (disch := first | omega | assumption | (simp only [Option.isSome_some,Qt0]; done) | (simp only [List.length_cons,List.length_nil,List.length_append,Int.toNat_natCast] <;> omega)) only [Nat.reduceLT,Nat.reduceLeDiff,Nat.reduceEqDiff,↓reduceIte,Int.reduceLT,Int.reduceLE,Int.reduceToNat,Int.reduceEq,Int.reduceNe,Nat.reduceAdd,Int.reduceAdd,Int.reduceSub,Int.reduceMul,Nat.reduceMul,Qp0,Ql0,Qe0]
  refine (ivec_any w0 _ ib s hs _ hi).mono ?_
  rintro v q6 ⟨A, cap, rfl, how, hi⟩
  obtain ⟨⟨x6, s6⟩, e6⟩ : ∃ p, p = vecS s.length s5 := ⟨_, rfl⟩
  rw [← e6] at hi how
  rw [← e6]
  simp only at hi how
  have hch : ChC 64 32 1099511627776 s.length s x1 x2 x3 x4 x5 x6 s1 s2 s3 s4 s5 s6 := ⟨e1, e2, e3, e4, e5, e6⟩
  have hc6 := ((((hc1.trans hc2).trans hc3).trans hc4).trans hc5).trans how.chg
  have hm6 := hc6.m _ _ hm2 hne
  have hle6 : PH.Le h q6 := ⟨Nat.le_trans hle2.top hc6.top, fun x k e => hc6.m x k (hle2.m x k e) (fun e' => by have := h.lt _ _ e; have := hle.top; omega)⟩
  obtain ⟨_, _, hA, hcap⟩ := how.own.len
  injection hA with hA1 hA2 hA3
  subst hA1; subst hA3
  have hrv : Rv w0 q6 A (ints x6) := how.rv
  have hnA : ∀ a, A = some a → a.block ≠ rb := fun a ea e => by
    have h5 := how.new _ (how.own.A a ea)
    have h6 := h1.lt _ _ hm
    have h7 := hl2.top
    have h8 := ((((hc1.trans hc2).trans hc3).trans hc4).trans hc5).top
    omega
  have hfr : ∀ a, A = some a → h.top ≤ a.block := fun a ea => by
    have h5 := how.new _ (how.own.A a ea)
    have h6 := hle.top
    have h7 := hl2.top
    have h8 := ((((hc1.trans hc2).trans hc3).trans hc4).trans hc5).top
    omega
  clear hc1 hc2 hc3 hc4 hc5 how
  simp -dsimp -implicitDefEqProofs (disch := first | omega | assumption | (simp only [Option.isSome_some,Qt0]; done) | (simp only [List.length_cons,List.length_nil,List.length_append,Int.toNat_natCast] <;> omega)) only [Nat.reduceLT,Nat.reduceLeDiff,Nat.reduceEqDiff,↓reduceIte,Int.reduceLT,Int.reduceLE,Int.reduceToNat,Int.reduceEq,Int.reduceNe,Nat.reduceAdd,Int.reduceAdd,Int.reduceSub,Int.reduceMul,Nat.reduceMul,Qp0,Ql0,Qe0]
  refine fun cb hcb => ?_
  have hlc := (PH.Le.refl q6).new cb ⟨[str x1, str x2, .int .i64 x3, .int .i64 x4, .int .i64 x5, .slice A x6.length cap], 6⟩ hcb
  have hmc : (q6.new cb ⟨[str x1, str x2, .int .i64 x3, .int .i64 x4, .int .i64 x5, .slice A x6.length cap], 6⟩).m cb = some ⟨[str x1, str x2, .int .i64 x3, .int .i64 x4, .int .i64 x5, .slice A x6.length cap], 6⟩ := by rw [PH.new_m, if_pos rfl]
  have ha := allOne_of [str x1, str x2, .int .i64 x3, .int .i64 x4, .int .i64 x5, .slice A x6.length cap] rfl
  simp -dsimp -implicitDefEqProofs (disch := first | omega | assumption | (simp only [Option.isSome_some,Qt0]; done) | (simp only [List.length_cons,List.length_nil,List.length_append,Int.toNat_natCast] <;> omega)) only [Nat.reduceLT,Nat.reduceLeDiff,Nat.reduceEqDiff,↓reduceIte,Int.reduceLT,Int.reduceLE,Int.reduceToNat,Int.reduceEq,Int.reduceNe,Nat.reduceAdd,Int.reduceAdd,Int.reduceSub,Int.reduceMul,Nat.reduceMul,Qp0,Ql0,Qe0,PH.new_new,List.take_zero,List.drop_succ_cons,List.drop_zero,List.drop_nil,List.append_nil,ite_true]
  generalize q6.new cb ⟨[str x1, str x2, .int .i64 x3, .int .i64 x4, .int .i64 x5, .slice A x6.length cap], 6⟩ = q7 at *
  have hi7 := hi.more hlc
  have hm7 := hlc.m _ _ hm6
  refine (end_any w0 q7 ib s s6 hi7).mono ?_
  rintro v q8 ⟨he, hl8⟩
  have hm8 := hl8.m _ _ hm7
  have hmc8 := hl8.m _ _ hmc
  have hle8 := (hle6.trans hlc).trans hl8
  have hrv8 := (hrv.more hlc).more hl8
  have hC0 : rdN w0 q8 ⟨cb, 0, none⟩ 6 = some [str x1, str x2, .int .i64 x3, .int .i64 x4, .int .i64 x5, .slice A x6.length cap] := by unfold rdN; simp only [hmc8]; rfl
  have hrbt := h.top
  have hrb0 : h.top ≤ rb := hrb
  have hz := allOne_of [.string ⟨#[]⟩, .string ⟨#[]⟩, .int .i64 0, .int .i64 0, .int .i64 0, .slice none 0 0] rfl
  rcases EE_told he with ⟨rfl, rfl⟩ | ⟨hn, be, p, rfl, hbe⟩
  · have hs0 := hch.back rfl
    have hR := rightC_any w0 q8 ⟨x1, x2, x3, x4, x5, x6⟩ A cap hrv8 hcap (by have := vecS_len e6; simp only; omega)
    unfold clL at hR
    simp only at hR
    cases hr : rightC ⟨x1, x2, x3, x4, x5, x6⟩ with
    | true =>
      rw [hr] at hR
      have hR := Lib.hid hR
      simp -dsimp -implicitDefEqProofs (disch := first | omega | assumption | (simp only [Option.isSome_some,Qt0]; done) | (simp only [List.length_cons,List.length_nil,List.length_append,Int.toNat_natCast] <;> omega)) only [Nat.reduceLT,Nat.reduceLeDiff,Nat.reduceEqDiff,↓reduceIte,Int.reduceLT,Int.reduceLE,Int.reduceToNat,Int.reduceEq,Int.reduceNe,Nat.reduceAdd,Int.reduceAdd,Int.reduceSub,Int.reduceMul,Nat.reduceMul,Qp0,Ql0,Qe0,hC0]
      refine hR.out.mono ?_
      rintro v hq ⟨rfl, hz⟩
      obtain rfl := hz.symm
      simp -dsimp -implicitDefEqProofs (disch := first | omega | assumption | (simp only [Option.isSome_some,Qt0]; done) | (simp only [List.length_cons,List.length_nil,List.length_append,Int.toNat_natCast] <;> omega)) only [Nat.reduceLT,Nat.reduceLeDiff,Nat.reduceEqDiff,↓reduceIte,Int.reduceLT,Int.reduceLE,Int.reduceToNat,Int.reduceEq,Int.reduceNe,Nat.reduceAdd,Int.reduceAdd,Int.reduceSub,Int.reduceMul,Nat.reduceMul,Qp0,Ql0,Qe0,hC0,hm8,List.take_zero,List.drop_succ_cons,List.drop_zero,List.drop_nil,List.nil_append,List.append_nil,rdN_new,List.take_succ_cons,ite_true]
      refine ⟨_, PH.Le.refl _, .inl ⟨⟨x1, x2, x3, x4, x5, x6⟩, A, cap, ⟨hr, hs0⟩, rfl, hcap, ?_, hfr⟩, hle8.new _ _ hrb0⟩
      exact hrv8.chg (F := (· = rb)) ((Chg.refl _ _).one _) (fun a ea e => by
        subst ea
        exact hnA a rfl e)
    | false =>
      rw [hr] at hR
      have hR := Lib.hid hR
      simp -dsimp -implicitDefEqProofs (disch := first | omega | assumption | (simp only [Option.isSome_some,Qt0]; done) | (simp only [List.length_cons,List.length_nil,List.length_append,Int.toNat_natCast] <;> omega)) only [Nat.reduceLT,Nat.reduceLeDiff,Nat.reduceEqDiff,↓reduceIte,Int.reduceLT,Int.reduceLE,Int.reduceToNat,Int.reduceEq,Int.reduceNe,Nat.reduceAdd,Int.reduceAdd,Int.reduceSub,Int.reduceMul,Nat.reduceMul,Qp0,Ql0,Qe0,hC0]
      refine hR.out.mono ?_
      rintro v hq ⟨rfl, hz⟩
      obtain rfl := hz.symm
      simp -dsimp -implicitDefEqProofs (disch := first | omega | assumption | (simp only [Option.isSome_some,Qt0]; done) | (simp only [List.length_cons,List.length_nil,List.length_append,Int.toNat_natCast] <;> omega)) only [Nat.reduceLT,Nat.reduceLeDiff,Nat.reduceEqDiff,↓reduceIte,Int.reduceLT,Int.reduceLE,Int.reduceToNat,Int.reduceEq,Int.reduceNe,Nat.reduceAdd,Int.reduceAdd,Int.reduceSub,Int.reduceMul,Nat.reduceMul,Qp0,Ql0,Qe0]
      refine (at_any wireT _ _ _ w0 _).mono ?_
      rintro v q9 ⟨be, rfl, hbe, rfl⟩
      have hl9 := (PH.Le.refl q8).new be ⟨[str wireT, .int .i64 0, .iface 37 (.int .i64 2)], 3⟩ hbe
      have hmb : (q8.new be ⟨[str wireT, .int .i64 0, .iface 37 (.int .i64 2)], 3⟩).m be = some ⟨[str wireT, .int .i64 0, .iface 37 (.int .i64 2)], 3⟩ := by rw [PH.new_m, if_pos rfl]
      have hm9 := hl9.m _ _ hm8
      have hnb : be ≠ rb := by have := q8.lt _ _ hm8; omega
      generalize q8.new be ⟨[str wireT, .int .i64 0, .iface 37 (.int .i64 2)], 3⟩ = q9 at *
      unfold errV
      simp -dsimp -implicitDefEqProofs (disch := first | omega | assumption | (simp only [Option.isSome_some,Qt0]; done) | (simp only [List.length_cons,List.length_nil,List.length_append,Int.toNat_natCast] <;> omega)) only [Nat.reduceLT,Nat.reduceLeDiff,Nat.reduceEqDiff,↓reduceIte,Int.reduceLT,Int.reduceLE,Int.reduceToNat,Int.reduceEq,Int.reduceNe,Nat.reduceAdd,Int.reduceAdd,Int.reduceSub,Int.reduceMul,Nat.reduceMul,Qp0,Ql0,Qe0,hm9,List.take_zero,List.drop_succ_cons,List.drop_zero,List.drop_nil,List.nil_append,List.append_nil,rdN_new,List.take_succ_cons,ite_true]
      refine ⟨_, PH.Le.refl _, .inr ⟨fun d hd => ?_, _, .wrap wireT 0 (.code 2), rfl, ⟨be, _, rfl, by rw [PH.new_m, if_neg hnb]; exact hmb, rfl⟩, rfl⟩, (hle8.trans hl9).new _ _ hrb0⟩
      obtain ⟨h5, _⟩ := hch.fwd (by omega) (by omega) (by omega) hd
      rw [h5] at hd
      rw [hd.1] at hr; cases hr
  · unfold errV
    have hnb : be ≠ rb := fun e => by
      rw [e, hm8] at hbe
      injection hbe with hbe
      injection hbe with _ hbe
      omega
    simp -dsimp -implicitDefEqProofs (disch := first | omega | assumption | (simp only [Option.isSome_some,Qt0]; done) | (simp only [List.length_cons,List.length_nil,List.length_append,Int.toNat_natCast] <;> omega)) only [Nat.reduceLT,Nat.reduceLeDiff,Nat.reduceEqDiff,↓reduceIte,Int.reduceLT,Int.reduceLE,Int.reduceToNat,Int.reduceEq,Int.reduceNe,Nat.reduceAdd,Int.reduceAdd,Int.reduceSub,Int.reduceMul,Nat.reduceMul,Qp0,Ql0,Qe0,hm8,List.take_zero,List.drop_succ_cons,List.drop_zero,List.drop_nil,List.nil_append,List.append_nil,rdN_new,List.take_succ_cons,ite_true]
    refine ⟨_, PH.Le.refl _, .inr ⟨fun d hd => ?_, _, .wrap wireT p (.code 2), rfl, ⟨be, _, rfl, by rw [PH.new_m, if_neg hnb]; exact hbe, rfl⟩, rfl⟩, hle8.new _ _ hrb0⟩
    exact hn (hch.fwd (by omega) (by omega) (by omega) hd).2
end Go.Proofs.YtdlaoeepeakpeaaGreat


/- The program's errors in the logic: errors.Is finds the code of an error however often it is wrapped. No condition. -/
namespace Go.Proofs.YtdlaoeepeakpeaaGreat
set_option linter.unusedVariables false
set_option linter.unusedSimpArgs false
open Go.RowKit Px Go.Extern.Stop Go.Stop Go.Extern
theorem noIs (b : Nat) (xT : TypeId) {K : Value → Prop} : Yld Tryz.prog (Instr.typeAssert (errV b) xT 86 true) K = K (.tuple #[.nilIface, .bool false]) := Yld_eq fun w => run_typeAssert_lacksB Tryz.underlying86 (by kernel_rfl) (by kernel_rfl) _ xT w
theorem hasUnwrap (b : Nat) (xT : TypeId) {K : Value → Prop} : Yld Tryz.prog (Instr.typeAssert (errV b) xT 89 true) K = K (.tuple #[errV b, .bool true]) := Yld_eq fun w => run_typeAssert_hasB Tryz.underlying89 (by kernel_rfl) _ xT w
theorem noIsC (k : Int) (xT : TypeId) {K : Value → Prop} : Yld Tryz.prog (Instr.typeAssert (codeV k) xT 86 true) K = K (.tuple #[.nilIface, .bool false]) := Yld_eq fun w => run_typeAssert_lacksB Tryz.underlying86 (by kernel_rfl) (by kernel_rfl) _ xT w
theorem noUnwrapC (k : Int) (xT : TypeId) {K : Value → Prop} : Yld Tryz.prog (Instr.typeAssert (codeV k) xT 89 true) K = K (.tuple #[.nilIface, .bool false]) := Yld_eq fun w => run_typeAssert_lacksB Tryz.underlying89 (by kernel_rfl) (by kernel_rfl) _ xT w
theorem noUnwrapsC (k : Int) (xT : TypeId) {K : Value → Prop} : Yld Tryz.prog (Instr.typeAssert (codeV k) xT 91 true) K = K (.tuple #[.nilIface, .bool false]) := Yld_eq fun w => run_typeAssert_lacksB Tryz.underlying91 (by kernel_rfl) (by kernel_rfl) _ xT w
theorem comp_code : (Tryz.prog.info? 37).map (·.comparable) = some true := by kernel_rfl
theorem run_equalIn_iface_int (w : World) (d : Nat) {P : Program} {ti tn : TypeId} {ms : Array (String × TypeId)} {i : TypeInfo} {k : IntKind} (a b : Int)
    (hi : P.underlying ti = some (.interface ms)) (hn : P.underlying tn = some (.int k)) (hinfo : P.info? tn = some i) (hcomp : i.comparable = true) :
    (Op.equalIn (d + 2) ti (.iface tn (.int k a)) (.iface tn (.int k b))).run P w = .ok (a == b) w := by
  simp [Op.equalIn, run_underlying hi, run_underlying hn, typeInfo, hinfo, hcomp]
theorem run_equalIn_iface_other (w : World) (d : Nat) {P : Program} {ti tx ty : TypeId} {ms : Array (String × TypeId)} (x y : Value) (hi : P.underlying ti = some (.interface ms)) (hne : tx ≠ ty) :
    (Op.equalIn (d + 2) ti (.iface tx x) (.iface ty y)).run P w = .ok false w := by
  simp [Op.equalIn, run_underlying hi, hne]
theorem eql_code (a b : Int) (w : World) : (binOp .eql 25 (codeV a) (codeV b)).run Tryz.prog w = .ok (.bool (a == b)) w := by
  obtain ⟨i, hi, hcmp⟩ := Option.map_eq_some_iff.1 comp_code
  unfold codeV
  simp only [binOp]
  simp [Op.equal, Op.maxDepth, run_equalIn_iface_int w 9998 a b Tryz.underlying25 Tryz.underlying37 hi hcmp]
theorem eql_other (v : Value) (b : Int) (w : World) : (binOp .eql 25 (.iface 62 v) (codeV b)).run Tryz.prog w = .ok (.bool false) w := by
  unfold codeV
  simp only [binOp]
  simp [Op.equal, Op.maxDepth, run_equalIn_iface_other w 9998 v (.int .i64 b) Tryz.underlying25 (show 62 ≠ 37 by decide)]
theorem y_eqlCC (x y : Tmp) (a b : Int) {K : Value → Prop} : Yld Tryz.prog (binS .eql 25 (.tmp x) (.tmp y) (codeV a) (codeV b)) K = K (.bool (a == b)) := Yld_eq fun w => by
  have := eql_code a b w
  unfold binS eqGuard codeV at *
  simp [this]
theorem y_eqlEC (x y : Tmp) (b : Nat) (c : Int) {K : Value → Prop} : Yld Tryz.prog (binS .eql 25 (.tmp x) (.tmp y) (errV b) (codeV c)) K = K (.bool false) := Yld_eq fun w => by
  have := eql_other (.pointer (some ⟨b, 0, none⟩)) c w
  unfold binS eqGuard errV codeV at *
  simp [this]
theorem unwrap_method (p : Value) (w : World) : (callMethod (.iface 62 p) "Unwrap" #[]).run Tryz.prog w = (callFunc 104 [p].toArray).run Tryz.prog w := by kernel_rfl
set_option maxRecDepth 20000 in
theorem unwrap_any (b : Nat) (s : List UInt8) (a : Int) (u : Value) (w0 : World) (h : PH) (hb : h.m b = some ⟨[str s, .int .i64 a, u], 3⟩) : PCalls Tryz.prog w0 104 [.pointer (some ⟨b, 0, none⟩)] h fun r h' => r = u ∧ h' = h := by
  refine PCalls_body Tryz.func104 (by kernel_rfl) rfl _ Tryz.ntmps104 (by kernel_rfl) (by kernel_rfl) _ Tryz.results104 ?_
  simp -dsimp -implicitDefEqProofs (disch := first | omega | assumption | (simp only [Option.isSome_some,Qt0]; done) | (simp only [List.length_cons,List.length_nil,List.length_append,Int.toNat_natCast] <;> omega)) only [Nat.reduceLT,Nat.reduceLeDiff,Nat.reduceEqDiff,↓reduceIte,Int.reduceLT,Int.reduceLE,Int.reduceToNat,Int.reduceEq,Int.reduceNe,Nat.reduceAdd,Int.reduceAdd,Int.reduceSub,Int.reduceMul,Nat.reduceMul,Qp0,Ql0,Qe0,rd_M,rdM_some,hb]
  exact ⟨_, PH.Le.refl _, by trivial, rfl⟩
set_option maxRecDepth 20000 in
/-- errors.is. -/
theorem is_any' (c : Int) (w0 : World) (h : PH) (e0 : Er) (v0 : Value) (hv0 : EV h e0 v0) : PCalls Tryz.prog w0 20 [v0, codeV c, .bool true] h fun r h' => r = .bool (e0.num == c) ∧ h' = h := by
  refine PCalls_body Tryz.func20 (by kernel_rfl) rfl _ Tryz.ntmps20 (by kernel_rfl) (by kernel_rfl) _ Tryz.results20 ?_
  simp -dsimp -implicitDefEqProofs (disch := first | omega | assumption | (simp only [Option.isSome_some,Qt0]; done) | (simp only [List.length_cons,List.length_nil,List.length_append,Int.toNat_natCast] <;> omega)) only [Nat.reduceLT,Nat.reduceLeDiff,Nat.reduceEqDiff,↓reduceIte,Int.reduceLT,Int.reduceLE,Int.reduceToNat,Int.reduceEq,Int.reduceNe,Nat.reduceAdd,Int.reduceAdd,Int.reduceSub,Int.reduceMul,Nat.reduceMul,Qp0,Ql0,Qe0]
  refine PW_loop (fun n f h' => ∃ (e : Er) (v : Value), e.deep = n ∧ e.num = e0.num ∧ EV h e v ∧ f 0 = some v ∧ f 1 = some (codeV c) ∧ f 2 = some (.bool true) ∧ h' = h) (by kernel_rfl) e0.deep ⟨e0, v0, rfl, rfl, hv0, ?_, ?_, ?_, rfl⟩ ?_
  · simp -dsimp -implicitDefEqProofs (disch := first | omega | assumption | (simp only [Option.isSome_some,Qt0]; done) | (simp only [List.length_cons,List.length_nil,List.length_append,Int.toNat_natCast] <;> omega)) only [Nat.reduceLT,Nat.reduceLeDiff,Nat.reduceEqDiff,↓reduceIte,Int.reduceLT,Int.reduceLE,Int.reduceToNat,Int.reduceEq,Int.reduceNe,Nat.reduceAdd,Int.reduceAdd,Int.reduceSub,Int.reduceMul,Nat.reduceMul,Qp0,Ql0,Qe0]
  · simp -dsimp -implicitDefEqProofs (disch := first | omega | assumption | (simp only [Option.isSome_some,Qt0]; done) | (simp only [List.length_cons,List.length_nil,List.length_append,Int.toNat_natCast] <;> omega)) only [Nat.reduceLT,Nat.reduceLeDiff,Nat.reduceEqDiff,↓reduceIte,Int.reduceLT,Int.reduceLE,Int.reduceToNat,Int.reduceEq,Int.reduceNe,Nat.reduceAdd,Int.reduceAdd,Int.reduceSub,Int.reduceMul,Nat.reduceMul,Qp0,Ql0,Qe0]
  · simp -dsimp -implicitDefEqProofs (disch := first | omega | assumption | (simp only [Option.isSome_some,Qt0]; done) | (simp only [List.length_cons,List.length_nil,List.length_append,Int.toNat_natCast] <;> omega)) only [Nat.reduceLT,Nat.reduceLeDiff,Nat.reduceEqDiff,↓reduceIte,Int.reduceLT,Int.reduceLE,Int.reduceToNat,Int.reduceEq,Int.reduceNe,Nat.reduceAdd,Int.reduceAdd,Int.reduceSub,Int.reduceMul,Nat.reduceMul,Qp0,Ql0,Qe0]
  rintro n f h' ⟨e, v, rfl, hn, hv, f0, f1, f2, rfl⟩
  rw [← hn]
  cases e with
  | code k =>
    obtain rfl : v = codeV k := hv
    have hnum : (Er.code k).num = k := rfl
    rw [hnum]
    cases hkc : (k == c)
    · simp -dsimp -implicitDefEqProofs (disch := first | omega | assumption | (simp only [Option.isSome_some,Qt0]; done) | (simp only [List.length_cons,List.length_nil,List.length_append,Int.toNat_natCast] <;> omega)) only [Nat.reduceLT,Nat.reduceLeDiff,Nat.reduceEqDiff,↓reduceIte,Int.reduceLT,Int.reduceLE,Int.reduceToNat,Int.reduceEq,Int.reduceNe,Nat.reduceAdd,Int.reduceAdd,Int.reduceSub,Int.reduceMul,Nat.reduceMul,Qp0,Ql0,Qe0,f0,f1,f2,y_eqlCC,hkc,noIsC,noUnwrapC,noUnwrapsC]
      exact ⟨_, PH.Le.refl _, by trivial, rfl⟩
    · simp -dsimp -implicitDefEqProofs (disch := first | omega | assumption | (simp only [Option.isSome_some,Qt0]; done) | (simp only [List.length_cons,List.length_nil,List.length_append,Int.toNat_natCast] <;> omega)) only [Nat.reduceLT,Nat.reduceLeDiff,Nat.reduceEqDiff,↓reduceIte,Int.reduceLT,Int.reduceLE,Int.reduceToNat,Int.reduceEq,Int.reduceNe,Nat.reduceAdd,Int.reduceAdd,Int.reduceSub,Int.reduceMul,Nat.reduceMul,Qp0,Ql0,Qe0,f0,f1,f2,y_eqlCC,hkc]
      exact ⟨_, PH.Le.refl _, by trivial, rfl⟩
  | wrap s a e =>
    obtain ⟨b, u, rfl, hb, hu⟩ := hv
    have hun := Lib.hid (@unwrap_any b s a u w0 h' hb)
    obtain ⟨t, x, rfl⟩ := hu.held
    simp -dsimp -implicitDefEqProofs (disch := first | omega | assumption | (simp only [Option.isSome_some,Qt0]; done) | (simp only [List.length_cons,List.length_nil,List.length_append,Int.toNat_natCast] <;> omega)) only [Nat.reduceLT,Nat.reduceLeDiff,Nat.reduceEqDiff,↓reduceIte,Int.reduceLT,Int.reduceLE,Int.reduceToNat,Int.reduceEq,Int.reduceNe,Nat.reduceAdd,Int.reduceAdd,Int.reduceSub,Int.reduceMul,Nat.reduceMul,Qp0,Ql0,Qe0,f0,f1,f2,y_eqlEC,noIs,hasUnwrap]
    refine ⟨_, _, unwrap_method _, hun.out.mono ?_⟩
    rintro v hz ⟨rfl, rfl⟩
    simp -dsimp -implicitDefEqProofs (disch := first | omega | assumption | (simp only [Option.isSome_some,Qt0]; done) | (simp only [List.length_cons,List.length_nil,List.length_append,Int.toNat_natCast] <;> omega)) only [Nat.reduceLT,Nat.reduceLeDiff,Nat.reduceEqDiff,↓reduceIte,Int.reduceLT,Int.reduceLE,Int.reduceToNat,Int.reduceEq,Int.reduceNe,Nat.reduceAdd,Int.reduceAdd,Int.reduceSub,Int.reduceMul,Nat.reduceMul,Qp0,Ql0,Qe0,f0,f1,f2]
    exact ⟨e.deep, _, Nat.lt_succ_self _, PH.Le.refl _, e, _, rfl, rfl, hu, rfl, by trivial, by trivial, rfl⟩
set_option maxRecDepth 20000 in
theorem typeOf_code (k : Int) (w : World) : (ReflectliteType.typeOf #[codeV k]).run Tryz.prog w = .ok (.iface 84 (.agg #[.pointer (some ⟨1, 37, none⟩)])) w := by kernel_rfl
theorem comp_run (w : World) : ((ReflectliteType.method fun t => do Rtype.noPackHeld "Comparable" t; (fun a => Value.bool a.comparable) <$> typeInfo t) #[.agg #[.pointer (some ⟨1, 37, none⟩)]]).run Tryz.prog w = .ok (.bool true) w := by kernel_rfl
theorem typeof_any (k : Int) (w0 : World) (h : PH) : PCalls Tryz.prog w0 19 [codeV k] h fun r h' => r = .iface 84 (.agg #[.pointer (some ⟨1, 37, none⟩)]) ∧ h' = h := by
  refine PCalls_value _ (fun w => ?_) ⟨rfl, rfl⟩
  rw [@run_callFunc_extern Tryz.prog 19 _ ReflectliteType.typeOf Tryz.func19 (by kernel_rfl) (by kernel_rfl) (by kernel_rfl) (by kernel_rfl), typeOf_code]
  rfl
theorem comp_any (w0 : World) (h : PH) : PCalls Tryz.prog w0 110 [.agg #[.pointer (some ⟨1, 37, none⟩)]] h fun r h' => r = .bool true ∧ h' = h := by
  refine PCalls_value _ (fun w => ?_) ⟨rfl, rfl⟩
  rw [@run_callFunc_extern Tryz.prog 110 _ (ReflectliteType.method fun t => do Rtype.noPackHeld "Comparable" t; pure (.bool (← typeInfo t).comparable)) Tryz.func110 (by kernel_rfl) (by kernel_rfl) (by kernel_rfl) (by kernel_rfl)]
  have := comp_run w
  simp only [bind_pure_comp] at this ⊢
  rw [this]
  rfl
theorem comp_method (w : World) : (callMethod (.iface 84 (.agg #[.pointer (some ⟨1, 37, none⟩)])) "Comparable" #[]).run Tryz.prog w = (callFunc 110 [.agg #[.pointer (some ⟨1, 37, none⟩)]].toArray).run Tryz.prog w := by kernel_rfl
end Go.Proofs.YtdlaoeepeakpeaaGreat


/- SHA-256 and its MAC as plain functions on lists of bytes, and the identities by which the program's and the reference's formulas are one. No condition. -/
namespace Go.Proofs.YtdlaoeepeakpeaaGreat.Sha
set_option linter.unusedVariables false
set_option linter.unusedSimpArgs false
def rotr (x n : UInt32) : UInt32 := x >>> n ||| x <<< (32 - n)
def ch (e f g : UInt32) : UInt32 := (e &&& f) ^^^ (~~~e &&& g)
def maj (a b c : UInt32) : UInt32 := (a &&& b) ^^^ (a &&& c) ^^^ (b &&& c)
theorem ch_alt (e f g : UInt32) : g ^^^ (e &&& (f ^^^ g)) = ch e f g := by
  unfold ch
  apply UInt32.toBitVec_inj.1
  apply BitVec.eq_of_getLsbD_eq
  intro i hi
  simp
  cases e.toBitVec.getLsbD i <;> cases f.toBitVec.getLsbD i <;> cases g.toBitVec.getLsbD i <;> simp [hi]
theorem maj_alt (a b c : UInt32) : ((a &&& (b ||| c)) ||| (b &&& c)) = maj a b c := by
  unfold maj
  apply UInt32.toBitVec_inj.1
  apply BitVec.eq_of_getLsbD_eq
  intro i hi
  simp
  cases a.toBitVec.getLsbD i <;> cases b.toBitVec.getLsbD i <;> cases c.toBitVec.getLsbD i <;> simp
def s0 (x : UInt32) : UInt32 := rotr x 7 ^^^ rotr x 18 ^^^ (x >>> 3)
def s1 (x : UInt32) : UInt32 := rotr x 17 ^^^ rotr x 19 ^^^ (x >>> 10)
def S0 (x : UInt32) : UInt32 := rotr x 2 ^^^ rotr x 13 ^^^ rotr x 22
def S1 (x : UInt32) : UInt32 := rotr x 6 ^^^ rotr x 11 ^^^ rotr x 25
def K : List UInt32 := [0x428a2f98, 0x71374491, 0xb5c0fbcf, 0xe9b5dba5, 0x3956c25b, 0x59f111f1, 0x923f82a4, 0xab1c5ed5, 0xd807aa98, 0x12835b01, 0x243185be, 0x550c7dc3, 0x72be5d74, 0x80deb1fe, 0x9bdc06a7, 0xc19bf174, 0xe49b69c1, 0xefbe4786, 0x0fc19dc6, 0x240ca1cc, 0x2de92c6f, 0x4a7484aa, 0x5cb0a9dc, 0x76f988da, 0x983e5152, 0xa831c66d, 0xb00327c8, 0xbf597fc7, 0xc6e00bf3, 0xd5a79147, 0x06ca6351, 0x14292967, 0x27b70a85, 0x2e1b2138, 0x4d2c6dfc, 0x53380d13, 0x650a7354, 0x766a0abb, 0x81c2c92e, 0x92722c85, 0xa2bfe8a1, 0xa81a664b, 0xc24b8b70, 0xc76c51a3, 0xd192e819, 0xd6990624, 0xf40e3585, 0x106aa070, 0x19a4c116, 0x1e376c08, 0x2748774c, 0x34b0bcb5, 0x391c0cb3, 0x4ed8aa4a, 0x5b9cca4f, 0x682e6ff3, 0x748f82ee, 0x78a5636f, 0x84c87814, 0x8cc70208, 0x90befffa, 0xa4506ceb, 0xbef9a3f7, 0xc67178f2]
structure St where
  a : UInt32
  b : UInt32
  c : UInt32
  d : UInt32
  e : UInt32
  f : UInt32
  g : UInt32
  h : UInt32
def St.list (s : St) : List UInt32 := [s.a, s.b, s.c, s.d, s.e, s.f, s.g, s.h]
def H0 : St := ⟨0x6a09e667, 0xbb67ae85, 0x3c6ef372, 0xa54ff53a, 0x510e527f, 0x9b05688c, 0x1f83d9ab, 0x5be0cd19⟩
def addSt (s t : St) : St := ⟨s.a + t.a, s.b + t.b, s.c + t.c, s.d + t.d, s.e + t.e, s.f + t.f, s.g + t.g, s.h + t.h⟩
def t1 (s : St) (k w : UInt32) : UInt32 := s.h + S1 s.e + ch s.e s.f s.g + k + w
def t2 (s : St) : UInt32 := S0 s.a + maj s.a s.b s.c
def rnd (s : St) (k w : UInt32) : St := ⟨t1 s k w + t2 s, s.a, s.b, s.c, s.d + t1 s k w, s.e, s.f, s.g⟩
def step (x : UInt32) (c : UInt8) : UInt32 := x * 256 + c.toUInt32
theorem step_alt (x : UInt32) (c : UInt8) : x <<< 8 ||| c.toUInt32 = step x c := by
  unfold step
  apply UInt32.toNat_inj.1
  have hc := c.toNat_lt
  rw [UInt32.toNat_or, UInt32.toNat_shiftLeft, UInt32.toNat_add, UInt32.toNat_mul, UInt8.toNat_toUInt32]
  simp only [UInt32.reduceToNat, Nat.reduceMod, Nat.shiftLeft_eq, Nat.reducePow]
  have h1 : x.toNat * 256 % 4294967296 = 2 ^ 8 * (x.toNat % 16777216) := by omega
  rw [h1, ← Nat.two_pow_add_eq_or_of_lt (by omega)]
  omega
def word (blk : List UInt8) (t : Nat) : UInt32 := ((blk.drop (4 * t)).take 4).foldl step 0
def next (blk : List UInt8) (n : Nat) (l : List UInt32) : UInt32 :=
  if n < 16 then word blk n else s1 (l.getD (n - 2) 0) + l.getD (n - 7) 0 + s0 (l.getD (n - 15) 0) + l.getD (n - 16) 0
def sched (blk : List UInt8) : Nat → List UInt32
  | 0 => []
  | n + 1 => sched blk n ++ [next blk n (sched blk n)]
theorem sched_length (blk : List UInt8) (n : Nat) : (sched blk n).length = n := by
  induction n with
  | zero => rfl
  | succ n ih => simp [sched, ih]
def rounds (wsm : List UInt32) : Nat → St → St
  | 0, s => s
  | n + 1, s => rnd (rounds wsm n s) (K.getD n 0) (wsm.getD n 0)
def comp (s : St) (blk : List UInt8) : St := addSt s (rounds (sched blk 64) 64 s)
def hash : Nat → List UInt8 → St → St
  | 0, _, s => s
  | n + 1, l, s => hash n (l.drop 64) (comp s (l.take 64))
def be : Nat → Nat → List UInt8
  | 0, _ => []
  | k + 1, n => be k (n / 256) ++ [UInt8.ofNat (n % 256)]
theorem be_length (k n : Nat) : (be k n).length = k := by
  induction k generalizing n with
  | zero => rfl
  | succ k ih => simp [be, ih]
def zerosOf (n : Nat) : Nat := (119 - n % 64) % 64
def pad (l : List UInt8) : List UInt8 := l ++ [0x80] ++ List.replicate (zerosOf l.length) 0 ++ be 8 (8 * l.length)
def bytes (s : St) : List UInt8 := s.list.flatMap fun x => be 4 x.toNat
def digest (l : List UInt8) : List UInt8 := bytes (hash ((pad l).length / 64) (pad l) H0)
theorem pad_length (l : List UInt8) : (pad l).length % 64 = 0 := by
  simp [pad, be_length, zerosOf]
  omega
end Go.Proofs.YtdlaoeepeakpeaaGreat.Sha


/- Walks of the small functions of mac: rotations, the eight bytes of a number, the tables. -/
namespace Go.Proofs.YtdlaoeepeakpeaaGreat
set_option linter.unusedVariables false
set_option linter.unusedSimpArgs false
open Go.RowKit Px
set_option maxRecDepth 20000 in
theorem rotl_any (x : UInt32) (k : Nat) (h0 : 0 < k) (hk : k < 32) (w0 : World) (h : PH) : PCalls Tryz.prog w0 79 [u32 x, .int .i64 k] h fun v h' => v = u32 (Sha.rotr x (UInt32.ofNat (32 - k))) ∧ h' = h := by
  refine PCalls_body Tryz.func79 (by kernel_rfl) rfl _ Tryz.ntmps79 (by kernel_rfl) (by kernel_rfl) _ Tryz.results79 ?_
  have e0 : (UInt64.ofInt (k : Int) &&& 31).toNat = k := by
    rw [UInt64.toNat_and]
    have : (UInt64.ofInt (k : Int)).toNat = k := by simp [UInt64.ofInt]; omega
    rw [this]
    have := Nat.and_two_pow_sub_one_eq_mod k 5
    simp at this ⊢
    rw [this]; omega
  obtain ⟨N, hN⟩ : ∃ N, N = UInt64.ofInt (k : Int) &&& 31 := ⟨_, rfl⟩
  rw [← hN] at e0
  have e1 : ((32 : UInt64) - N).toNat = 32 - k := by
    rw [UInt64.toNat_sub_of_le _ _ (by rw [UInt64.le_iff_toNat_le, e0]; simp; omega), e0]; rfl
  obtain ⟨M, hM⟩ : ∃ M, M = (32 : UInt64) - N := ⟨_, rfl⟩
  rw [← hM] at e1
  have hN' := hN.symm
  have hM' := hM.symm
  simp -dsimp -implicitDefEqProofs (disch := first | omega | assumption | (simp only [Option.isSome_some,Qt0]; done) | (simp only [UInt64.reduceToNat,UInt32.reduceToNat,UInt8.reduceToNat,List.length_cons,List.length_nil,List.length_append,Int.toNat_natCast] <;> omega)) only [Nat.reduceLT,Nat.reduceLeDiff,Nat.reduceEqDiff,↓reduceIte,Int.reduceLT,Int.reduceLE,Int.reduceToNat,Int.reduceEq,Int.reduceNe,Nat.reduceAdd,UInt8.reduceOfNat,UInt16.reduceOfNat,UInt32.reduceOfNat,UInt64.reduceOfNat,UInt64.reduceToNat,UInt32.reduceToNat,UInt16.reduceToNat,UInt8.reduceToNat,Int.reduceAdd,Int.reduceSub,Int.reduceMul,Nat.reduceMul,Qp0,Ql0,Qe0,hN',hM',e0,e1]
  refine ⟨_, PH.Le.refl _, ?_, rfl⟩
  unfold Sha.rotr
  have e2 : (32 : UInt32) - UInt32.ofNat (32 - k) = UInt32.ofNat k := by
    apply UInt32.toNat_inj.1
    rw [UInt32.toNat_sub_of_le _ _ (by rw [UInt32.le_iff_toNat_le]; simp; omega)]
    simp; omega
  rw [e2, UInt32.or_comm]
set_option maxRecDepth 20000 in
theorem rotr_any (x : UInt32) (n : UInt64) (h0 : 0 < n.toNat) (hk : n.toNat < 32) (w0 : World) (h : PH) : PCalls Tryz.prog w0 78 [u32 x, u64 n] h fun v h' => v = u32 (Sha.rotr x (UInt32.ofNat n.toNat)) ∧ h' = h := by
  refine PCalls_body Tryz.func78 (by kernel_rfl) rfl _ Tryz.ntmps78 (by kernel_rfl) (by kernel_rfl) _ Tryz.results78 ?_
  have e1 : ((32 : UInt64) - n).toNat = 32 - n.toNat := by
    rw [UInt64.toNat_sub_of_le _ _ (by rw [UInt64.le_iff_toNat_le]; simp; omega)]; rfl
  obtain ⟨M, hM⟩ : ∃ M, M = (32 : UInt64) - n := ⟨_, rfl⟩
  rw [← hM] at e1
  have hM' := hM.symm
  simp -dsimp -implicitDefEqProofs (disch := first | omega | assumption | (simp only [Option.isSome_some,Qt0]; done) | (simp only [UInt64.reduceToNat,UInt32.reduceToNat,UInt8.reduceToNat,List.length_cons,List.length_nil,List.length_append,Int.toNat_natCast] <;> omega)) only [Nat.reduceLT,Nat.reduceLeDiff,Nat.reduceEqDiff,↓reduceIte,Int.reduceLT,Int.reduceLE,Int.reduceToNat,Int.reduceEq,Int.reduceNe,Nat.reduceAdd,UInt8.reduceOfNat,UInt16.reduceOfNat,UInt32.reduceOfNat,UInt64.reduceOfNat,UInt64.reduceToNat,UInt32.reduceToNat,UInt16.reduceToNat,UInt8.reduceToNat,Int.reduceAdd,Int.reduceSub,Int.reduceMul,Nat.reduceMul,Qp0,Ql0,Qe0,hM',e1]
  refine ⟨_, PH.Le.refl _, ?_, rfl⟩
  unfold Sha.rotr
  have e2 : (32 : UInt32) - UInt32.ofNat n.toNat = UInt32.ofNat (32 - n.toNat) := by
    apply UInt32.toNat_inj.1
    rw [UInt32.toNat_sub_of_le _ _ (by rw [UInt32.le_iff_toNat_le]; simp; omega)]
    simp; omega
  rw [e2]
def wsm (l : List UInt32) : List Value := l.map u32
theorem wsm_one (l : List UInt32) : allOne (wsm l) := by
  intro v hv
  obtain ⟨_, _, rfl⟩ := List.mem_map.1 hv
  rfl
theorem ws_One {l : List UInt32} : ∀ v ∈ wsm l, One v := by
  intro v hv
  obtain ⟨_, _, rfl⟩ := List.mem_map.1 hv
  exact ⟨rfl, rfl⟩
theorem be_cons (k n : Nat) : Sha.be (k + 1) n = UInt8.ofNat (n / 256 ^ k % 256) :: Sha.be k n := by
  induction k generalizing n with
  | zero => simp [Sha.be]
  | succ k ih =>
    rw [Sha.be, ih (n / 256)]
    rw [show Sha.be (k + 1) n = Sha.be k (n / 256) ++ [UInt8.ofNat (n % 256)] from rfl]
    rw [List.cons_append, Nat.div_div_eq_div_mul, show 256 * 256 ^ k = 256 ^ (k + 1) by rw [Nat.pow_succ, Nat.mul_comm]]
/-- Eight cells of which the last i are filled. -/
def part8 (n i : Nat) : List Value := bs (List.replicate (8 - i) 0 ++ Sha.be i n)
theorem part8_length (n i : Nat) (h : i ≤ 8) : (part8 n i).length = 8 := by simp [part8, bs, Sha.be_length]; omega
theorem part8_set (n i : Nat) (h : i < 8) : (part8 n i).set (7 - i) (u8 (UInt8.ofNat (n / 256 ^ i % 256))) = part8 n (i + 1) := by
  unfold part8 bs
  rw [be_cons, show 8 - i = (7 - i) + 1 by omega, List.replicate_succ', show 8 - (i + 1) = 7 - i by omega]
  rw [List.append_assoc, List.map_append, List.map_append, List.set_append_right _ _ (by simp)]
  simp
set_option maxRecDepth 20000 in
set_option maxHeartbeats 1000000 in
theorem eight_any (x : UInt64) (w0 : World) (h : PH) : PCalls Tryz.prog w0 69 [u64 x] h fun v h' => ∃ b, v = .slice (some ⟨b, 0, none⟩) 8 8 ∧ h.top ≤ b ∧ h' = h.new b ⟨bs (Sha.be 8 x.toNat), 8⟩ := by
  refine PCalls_body Tryz.func69 (by kernel_rfl) rfl _ Tryz.ntmps69 (by kernel_rfl) (by kernel_rfl) _ Tryz.results69 ?_
  simp -dsimp -implicitDefEqProofs (disch := first | omega | assumption | (simp only [Option.isSome_some,Qt0]; done) | (simp only [UInt64.reduceToNat,UInt32.reduceToNat,UInt8.reduceToNat,List.length_cons,List.length_nil,List.length_append,Int.toNat_natCast] <;> omega)) only [Nat.reduceLT,Nat.reduceLeDiff,Nat.reduceEqDiff,↓reduceIte,Int.reduceLT,Int.reduceLE,Int.reduceToNat,Int.reduceEq,Int.reduceNe,Nat.reduceAdd,UInt8.reduceOfNat,UInt16.reduceOfNat,UInt32.reduceOfNat,UInt64.reduceOfNat,UInt64.reduceToNat,UInt32.reduceToNat,UInt16.reduceToNat,UInt8.reduceToNat,Int.reduceAdd,Int.reduceSub,Int.reduceMul,Nat.reduceMul,Qp0,Ql0,Qe0]
  refine fun b hb => ?_
  simp -dsimp -implicitDefEqProofs (disch := first | omega | assumption | (simp only [Option.isSome_some,Qt0]; done) | (simp only [UInt64.reduceToNat,UInt32.reduceToNat,UInt8.reduceToNat,List.length_cons,List.length_nil,List.length_append,Int.toNat_natCast] <;> omega)) only [Nat.reduceLT,Nat.reduceLeDiff,Nat.reduceEqDiff,↓reduceIte,Int.reduceLT,Int.reduceLE,Int.reduceToNat,Int.reduceEq,Int.reduceNe,Nat.reduceAdd,UInt8.reduceOfNat,UInt16.reduceOfNat,UInt32.reduceOfNat,UInt64.reduceOfNat,UInt64.reduceToNat,UInt32.reduceToNat,UInt16.reduceToNat,UInt8.reduceToNat,Int.reduceAdd,Int.reduceSub,Int.reduceMul,Nat.reduceMul,Qp0,Ql0,Qe0]
  refine PW_loop (fun n f h' => ∃ i : Nat, i ≤ 8 ∧ n = 8 - i ∧ f 0 = some (u64 x) ∧ f 3 = some (.pointer (some ⟨b, 0, none⟩)) ∧ f 5 = some (.int .i64 i) ∧ h' = h.new b ⟨part8 x.toNat i, 8⟩) (by kernel_rfl) 8 ⟨0, by omega, by omega, ?_, ?_, ?_, rfl⟩ ?_
  · simp -dsimp -implicitDefEqProofs (disch := first | omega | assumption | (simp only [Option.isSome_some,Qt0]; done) | (simp only [UInt64.reduceToNat,UInt32.reduceToNat,UInt8.reduceToNat,List.length_cons,List.length_nil,List.length_append,Int.toNat_natCast] <;> omega)) only [Nat.reduceLT,Nat.reduceLeDiff,Nat.reduceEqDiff,↓reduceIte,Int.reduceLT,Int.reduceLE,Int.reduceToNat,Int.reduceEq,Int.reduceNe,Nat.reduceAdd,UInt8.reduceOfNat,UInt16.reduceOfNat,UInt32.reduceOfNat,UInt64.reduceOfNat,UInt64.reduceToNat,UInt32.reduceToNat,UInt16.reduceToNat,UInt8.reduceToNat,Int.reduceAdd,Int.reduceSub,Int.reduceMul,Nat.reduceMul,Qp0,Ql0,Qe0]
  · simp -dsimp -implicitDefEqProofs (disch := first | omega | assumption | (simp only [Option.isSome_some,Qt0]; done) | (simp only [UInt64.reduceToNat,UInt32.reduceToNat,UInt8.reduceToNat,List.length_cons,List.length_nil,List.length_append,Int.toNat_natCast] <;> omega)) only [Nat.reduceLT,Nat.reduceLeDiff,Nat.reduceEqDiff,↓reduceIte,Int.reduceLT,Int.reduceLE,Int.reduceToNat,Int.reduceEq,Int.reduceNe,Nat.reduceAdd,UInt8.reduceOfNat,UInt16.reduceOfNat,UInt32.reduceOfNat,UInt64.reduceOfNat,UInt64.reduceToNat,UInt32.reduceToNat,UInt16.reduceToNat,UInt8.reduceToNat,Int.reduceAdd,Int.reduceSub,Int.reduceMul,Nat.reduceMul,Qp0,Ql0,Qe0]
  · simp -dsimp -implicitDefEqProofs (disch := first | omega | assumption | (simp only [Option.isSome_some,Qt0]; done) | (simp only [UInt64.reduceToNat,UInt32.reduceToNat,UInt8.reduceToNat,List.length_cons,List.length_nil,List.length_append,Int.toNat_natCast] <;> omega)) only [Nat.reduceLT,Nat.reduceLeDiff,Nat.reduceEqDiff,↓reduceIte,Int.reduceLT,Int.reduceLE,Int.reduceToNat,Int.reduceEq,Int.reduceNe,Nat.reduceAdd,UInt8.reduceOfNat,UInt16.reduceOfNat,UInt32.reduceOfNat,UInt64.reduceOfNat,UInt64.reduceToNat,UInt32.reduceToNat,UInt16.reduceToNat,UInt8.reduceToNat,Int.reduceAdd,Int.reduceSub,Int.reduceMul,Nat.reduceMul,Qp0,Ql0,Qe0]
    try rfl
  rintro n f h' ⟨i, hi, rfl, h0, h3, h5, rfl⟩
  by_cases hlt : i < 8
  · have hl := part8_length x.toNat i hi
    have hs := Lib.hid (part8_set x.toNat i hlt)
    simp -dsimp -implicitDefEqProofs (disch := first | omega | assumption | (simp only [Option.isSome_some,Qt0]; done) | (simp only [UInt64.reduceToNat,UInt32.reduceToNat,UInt8.reduceToNat,List.length_cons,List.length_nil,List.length_append,Int.toNat_natCast] <;> omega)) only [Nat.reduceLT,Nat.reduceLeDiff,Nat.reduceEqDiff,↓reduceIte,Int.reduceLT,Int.reduceLE,Int.reduceToNat,Int.reduceEq,Int.reduceNe,Nat.reduceAdd,UInt8.reduceOfNat,UInt16.reduceOfNat,UInt32.reduceOfNat,UInt64.reduceOfNat,UInt64.reduceToNat,UInt32.reduceToNat,UInt16.reduceToNat,UInt8.reduceToNat,Int.reduceAdd,Int.reduceSub,Int.reduceMul,Nat.reduceMul,Qp0,Ql0,Qe0,h0,h3,h5,hl]
    have t1 : (7 - (i : Int)).toNat = 7 - i := by omega
    have t2 : (8 * (i : Int)).toNat = 8 * i := by omega
    have t3 : (x >>> UInt64.ofNat (8 * i)).toUInt8 = UInt8.ofNat (x.toNat / 256 ^ i % 256) := by
      apply UInt8.toNat_inj.1
      rw [UInt64.toNat_toUInt8, UInt64.toNat_shiftRight, UInt64.toNat_ofNat', Nat.mod_eq_of_lt (show 8 * i % 2 ^ 64 < 64 by omega), Nat.mod_eq_of_lt (show 8 * i < 2 ^ 64 by omega), Nat.shiftRight_eq_div_pow, Nat.pow_mul]
      simp
    rw [t1, t2, t3, hs.out, PH.new_new]
    exact ⟨_, _, by omega, PH.Le.refl _, i + 1, by omega, rfl, trivial, trivial, by simp, rfl⟩
  · obtain rfl : i = 8 := by omega
    simp -dsimp -implicitDefEqProofs (disch := first | omega | assumption | (simp only [Option.isSome_some,Qt0]; done) | (simp only [UInt64.reduceToNat,UInt32.reduceToNat,UInt8.reduceToNat,List.length_cons,List.length_nil,List.length_append,Int.toNat_natCast] <;> omega)) only [Nat.reduceLT,Nat.reduceLeDiff,Nat.reduceEqDiff,↓reduceIte,Int.reduceLT,Int.reduceLE,Int.reduceToNat,Int.reduceEq,Int.reduceNe,Nat.reduceAdd,UInt8.reduceOfNat,UInt16.reduceOfNat,UInt32.reduceOfNat,UInt64.reduceOfNat,UInt64.reduceToNat,UInt32.reduceToNat,UInt16.reduceToNat,UInt8.reduceToNat,Int.reduceAdd,Int.reduceSub,Int.reduceMul,Nat.reduceMul,Qp0,Ql0,Qe0,h0,h3,h5]
    exact ⟨_, PH.Le.refl _, b, rfl, hb, rfl⟩
set_option maxRecDepth 100000 in
set_option maxHeartbeats 1000000 in
theorem start_any (w0 : World) (h : PH) : PCalls Tryz.prog w0 70 [] h fun v h' => v = .agg (wsm Sha.H0.list).toArray ∧ h' = h := by
  refine PCalls_body Tryz.func70 (by kernel_rfl) rfl _ Tryz.ntmps70 (by kernel_rfl) (by kernel_rfl) _ Tryz.results70 ?_
  simp -dsimp -implicitDefEqProofs (disch := first | omega | assumption | (simp only [Option.isSome_some,Qt0]; done) | (simp only [UInt64.reduceToNat,UInt32.reduceToNat,UInt8.reduceToNat,List.length_cons,List.length_nil,List.length_append,Int.toNat_natCast] <;> omega)) only [Nat.reduceLT,Nat.reduceLeDiff,Nat.reduceEqDiff,↓reduceIte,Int.reduceLT,Int.reduceLE,Int.reduceToNat,Int.reduceEq,Int.reduceNe,Nat.reduceAdd,UInt8.reduceOfNat,UInt16.reduceOfNat,UInt32.reduceOfNat,UInt64.reduceOfNat,UInt64.reduceToNat,UInt32.reduceToNat,UInt16.reduceToNat,UInt8.reduceToNat,Int.reduceAdd,Int.reduceSub,Int.reduceMul,Nat.reduceMul,Qp0,Ql0,Qe0]
  refine fun b hb => ?_
  simp -dsimp -implicitDefEqProofs (disch := first | omega | assumption | (simp only [Option.isSome_some,Qt0]; done) | (simp only [UInt64.reduceToNat,UInt32.reduceToNat,UInt8.reduceToNat,List.length_cons,List.length_nil,List.length_append,Int.toNat_natCast] <;> omega)) only [Nat.reduceLT,Nat.reduceLeDiff,Nat.reduceEqDiff,↓reduceIte,Int.reduceLT,Int.reduceLE,Int.reduceToNat,Int.reduceEq,Int.reduceNe,Nat.reduceAdd,UInt8.reduceOfNat,UInt16.reduceOfNat,UInt32.reduceOfNat,UInt64.reduceOfNat,UInt64.reduceToNat,UInt32.reduceToNat,UInt16.reduceToNat,UInt8.reduceToNat,Int.reduceAdd,Int.reduceSub,Int.reduceMul,Nat.reduceMul,Qp0,Ql0,Qe0]
  have HL : (wsm Sha.H0.list).length = 8 := rfl
  have H1 := wsm_one Sha.H0.list
  refine Eq.mpr (y_buildA Tryz.underlying127 sz102 zc127 (by simp) (wsm Sha.H0.list) rfl ws_One) ?_
  simp -dsimp -implicitDefEqProofs (disch := first | omega | assumption | (simp only [Option.isSome_some,Qt0]; done) | (simp only [UInt64.reduceToNat,UInt32.reduceToNat,UInt8.reduceToNat,List.length_cons,List.length_nil,List.length_append,Int.toNat_natCast] <;> omega)) only [Nat.reduceLT,Nat.reduceLeDiff,Nat.reduceEqDiff,↓reduceIte,Int.reduceLT,Int.reduceLE,Int.reduceToNat,Int.reduceEq,Int.reduceNe,Nat.reduceAdd,UInt8.reduceOfNat,UInt16.reduceOfNat,UInt32.reduceOfNat,UInt64.reduceOfNat,UInt64.reduceToNat,UInt32.reduceToNat,UInt16.reduceToNat,UInt8.reduceToNat,Int.reduceAdd,Int.reduceSub,Int.reduceMul,Nat.reduceMul,Qp0,Ql0,Qe0,HL]
  rw [PH.new_new, rdN_known (n := 8) (k := ⟨wsm Sha.H0.list, 8⟩) (by rw [PH.new_m, if_pos rfl]; rfl) rfl, ogetL_some]
  exact ⟨h, (PH.Le.refl h).new _ _ hb, rfl, rfl⟩
set_option maxRecDepth 100000 in
set_option maxHeartbeats 1000000 in
theorem turns_any (w0 : World) (h : PH) : PCalls Tryz.prog w0 80 [] h fun v h' => v = .agg (wsm Sha.K).toArray ∧ h' = h := by
  refine PCalls_body Tryz.func80 (by kernel_rfl) rfl _ Tryz.ntmps80 (by kernel_rfl) (by kernel_rfl) _ Tryz.results80 ?_
  simp -dsimp -implicitDefEqProofs (disch := first | omega | assumption | (simp only [Option.isSome_some,Qt0]; done) | (simp only [UInt64.reduceToNat,UInt32.reduceToNat,UInt8.reduceToNat,List.length_cons,List.length_nil,List.length_append,Int.toNat_natCast] <;> omega)) only [Nat.reduceLT,Nat.reduceLeDiff,Nat.reduceEqDiff,↓reduceIte,Int.reduceLT,Int.reduceLE,Int.reduceToNat,Int.reduceEq,Int.reduceNe,Nat.reduceAdd,UInt8.reduceOfNat,UInt16.reduceOfNat,UInt32.reduceOfNat,UInt64.reduceOfNat,UInt64.reduceToNat,UInt32.reduceToNat,UInt16.reduceToNat,UInt8.reduceToNat,Int.reduceAdd,Int.reduceSub,Int.reduceMul,Nat.reduceMul,Qp0,Ql0,Qe0]
  refine fun b hb => ?_
  simp -dsimp -implicitDefEqProofs (disch := first | omega | assumption | (simp only [Option.isSome_some,Qt0]; done) | (simp only [UInt64.reduceToNat,UInt32.reduceToNat,UInt8.reduceToNat,List.length_cons,List.length_nil,List.length_append,Int.toNat_natCast] <;> omega)) only [Nat.reduceLT,Nat.reduceLeDiff,Nat.reduceEqDiff,↓reduceIte,Int.reduceLT,Int.reduceLE,Int.reduceToNat,Int.reduceEq,Int.reduceNe,Nat.reduceAdd,UInt8.reduceOfNat,UInt16.reduceOfNat,UInt32.reduceOfNat,UInt64.reduceOfNat,UInt64.reduceToNat,UInt32.reduceToNat,UInt16.reduceToNat,UInt8.reduceToNat,Int.reduceAdd,Int.reduceSub,Int.reduceMul,Nat.reduceMul,Qp0,Ql0,Qe0]
  have HL : (wsm Sha.K).length = 64 := rfl
  have H1 := wsm_one Sha.K
  refine Eq.mpr (y_buildA Tryz.underlying138 sz102 zc138 (by simp) (wsm Sha.K) rfl ws_One) ?_
  simp -dsimp -implicitDefEqProofs (disch := first | omega | assumption | (simp only [Option.isSome_some,Qt0]; done) | (simp only [UInt64.reduceToNat,UInt32.reduceToNat,UInt8.reduceToNat,List.length_cons,List.length_nil,List.length_append,Int.toNat_natCast] <;> omega)) only [Nat.reduceLT,Nat.reduceLeDiff,Nat.reduceEqDiff,↓reduceIte,Int.reduceLT,Int.reduceLE,Int.reduceToNat,Int.reduceEq,Int.reduceNe,Nat.reduceAdd,UInt8.reduceOfNat,UInt16.reduceOfNat,UInt32.reduceOfNat,UInt64.reduceOfNat,UInt64.reduceToNat,UInt32.reduceToNat,UInt16.reduceToNat,UInt8.reduceToNat,Int.reduceAdd,Int.reduceSub,Int.reduceMul,Nat.reduceMul,Qp0,Ql0,Qe0,HL]
  rw [PH.new_new, rdN_known (n := 64) (k := ⟨wsm Sha.K, 64⟩) (by rw [PH.new_m, if_pos rfl]; rfl) rfl, ogetL_some]
  exact ⟨h, (PH.Le.refl h).new _ _ hb, rfl, rfl⟩
theorem info_u32m : (Tryz.prog.info? 102).map (fun i => (i.zero, i.size, i.bytes)) = some (some (.int .u32 0), 1, 4) := by kernel_rfl
theorem el_u32m : El Tryz.prog 104 102 (.int .u32 0) 1 4 := ⟨Tryz.underlying104, info_parts info_u32m, rfl, by decide⟩
theorem info_u8m : (Tryz.prog.info? 5).map (fun i => (i.zero, i.size, i.bytes)) = some (some (.int .u8 0), 1, 1) := by kernel_rfl
theorem el_u8m : El Tryz.prog 74 5 (.int .u8 0) 1 1 := ⟨Tryz.underlying74, info_parts info_u8m, rfl, by decide⟩
set_option maxRecDepth 100000 in
set_option maxHeartbeats 1000000 in
theorem constants_any (w0 : World) (h : PH) : PCalls Tryz.prog w0 77 [] h fun v h' => ∃ b, v = .slice (some ⟨b, 0, none⟩) 64 64 ∧ h.top ≤ b ∧ h' = h.new b ⟨wsm Sha.K, 64⟩ := by
  refine PCalls_body Tryz.func77 (by kernel_rfl) rfl _ Tryz.ntmps77 (by kernel_rfl) (by kernel_rfl) _ Tryz.results77 ?_
  simp -dsimp -implicitDefEqProofs (disch := first | omega | assumption | (simp only [Option.isSome_some,Qt0]; done) | (simp only [UInt64.reduceToNat,UInt32.reduceToNat,UInt8.reduceToNat,List.length_cons,List.length_nil,List.length_append,Int.toNat_natCast] <;> omega)) only [Nat.reduceLT,Nat.reduceLeDiff,Nat.reduceEqDiff,↓reduceIte,Int.reduceLT,Int.reduceLE,Int.reduceToNat,Int.reduceEq,Int.reduceNe,Nat.reduceAdd,UInt8.reduceOfNat,UInt16.reduceOfNat,UInt32.reduceOfNat,UInt64.reduceOfNat,UInt64.reduceToNat,UInt32.reduceToNat,UInt16.reduceToNat,UInt8.reduceToNat,Int.reduceAdd,Int.reduceSub,Int.reduceMul,Nat.reduceMul,Qp0,Ql0,Qe0]
  refine Does_seq el_u32m (wsm Sha.K) rfl ws_One (by omega) (by omega) (fun b hb => ?_)
  simp -dsimp -implicitDefEqProofs (disch := first | omega | assumption | (simp only [Option.isSome_some,Qt0]; done) | (simp only [UInt64.reduceToNat,UInt32.reduceToNat,UInt8.reduceToNat,List.length_cons,List.length_nil,List.length_append,Int.toNat_natCast] <;> omega)) only [Nat.reduceLT,Nat.reduceLeDiff,Nat.reduceEqDiff,↓reduceIte,Int.reduceLT,Int.reduceLE,Int.reduceToNat,Int.reduceEq,Int.reduceNe,Nat.reduceAdd,UInt8.reduceOfNat,UInt16.reduceOfNat,UInt32.reduceOfNat,UInt64.reduceOfNat,UInt64.reduceToNat,UInt32.reduceToNat,UInt16.reduceToNat,UInt8.reduceToNat,Int.reduceAdd,Int.reduceSub,Int.reduceMul,Nat.reduceMul,Qp0,Ql0,Qe0]
  exact ⟨_, PH.Le.refl _, b, rfl, hb, rfl⟩
/-- n cells of which the last i are filled. -/
def partN (m n i : Nat) : List Value := bs (List.replicate (m - i) 0 ++ Sha.be i n)
theorem partN_length (m n i : Nat) (h : i ≤ m) : (partN m n i).length = m := by simp [partN, bs, Sha.be_length]; omega
theorem partN_set (m n i : Nat) (h : i < m) : (partN m n i).set (m - 1 - i) (u8 (UInt8.ofNat (n / 256 ^ i % 256))) = partN m n (i + 1) := by
  unfold partN bs
  rw [be_cons, show m - i = (m - 1 - i) + 1 by omega, List.replicate_succ', show m - (i + 1) = m - 1 - i by omega]
  rw [List.append_assoc, List.map_append, List.map_append, List.set_append_right _ _ (by simp)]
  simp
theorem div_step (x : UInt64) (n i : Nat) (h : x.toNat = n / 256 ^ i) : (x / 256).toNat = n / 256 ^ (i + 1) := by
  rw [UInt64.toNat_div, h, show (256 : UInt64).toNat = 256 from rfl, Nat.div_div_eq_div_mul, Nat.pow_succ]
theorem rem_byte (x : UInt64) (n i : Nat) (h : x.toNat = n / 256 ^ i) : (x % 256).toUInt8 = UInt8.ofNat (n / 256 ^ i % 256) := by
  apply UInt8.toNat_inj.1
  rw [UInt64.toNat_toUInt8, UInt64.toNat_mod, h]
  simp
set_option maxRecDepth 20000 in
set_option maxHeartbeats 1000000 in
theorem mnum_any (x : UInt64) (m : Nat) (hm : m = 4 ∨ m = 8) (w0 : World) (h : PH) : PCalls Tryz.prog w0 63 [u64 x, .int .i64 m] h fun v h' => ∃ b, v = .slice (some ⟨b, 0, none⟩) m m ∧ h.top ≤ b ∧ h' = h.new b ⟨bs (Sha.be m x.toNat), m⟩ := by
  refine PCalls_body Tryz.func63 (by kernel_rfl) rfl _ Tryz.ntmps63 (by kernel_rfl) (by kernel_rfl) _ Tryz.results63 ?_
  simp -dsimp -implicitDefEqProofs (disch := first | omega | assumption | (simp only [Option.isSome_some,Qt0]; done) | (simp only [UInt64.reduceToNat,UInt32.reduceToNat,UInt8.reduceToNat,List.length_cons,List.length_nil,List.length_append,Int.toNat_natCast] <;> omega)) only [Nat.reduceLT,Nat.reduceLeDiff,Nat.reduceEqDiff,↓reduceIte,Int.reduceLT,Int.reduceLE,Int.reduceToNat,Int.reduceEq,Int.reduceNe,Nat.reduceAdd,UInt8.reduceOfNat,UInt16.reduceOfNat,UInt32.reduceOfNat,UInt64.reduceOfNat,UInt64.reduceToNat,UInt32.reduceToNat,UInt16.reduceToNat,UInt8.reduceToNat,Int.reduceAdd,Int.reduceSub,Int.reduceMul,Nat.reduceMul,Qp0,Ql0,Qe0]
  refine Does_make (n := m) (c := m) el_u8m (by omega) (by simp [maxLen]; omega) (by omega) (fun b hb => ?_)
  have hmk : (madeCells (Value.int .u8 0).cells (m * 1)).toList = partN m x.toNat 0 := by
    show (madeCells #[Value.int .u8 0] (m * 1)).toList = _
    rw [made_one, Nat.mul_one, partN, Nat.sub_zero, show Sha.be 0 x.toNat = [] from rfl, List.append_nil, bs, List.map_replicate]
    rfl
  rw [hmk, Nat.mul_one]
  simp -dsimp -implicitDefEqProofs (disch := first | omega | assumption | (simp only [Option.isSome_some,Qt0]; done) | (simp only [UInt64.reduceToNat,UInt32.reduceToNat,UInt8.reduceToNat,List.length_cons,List.length_nil,List.length_append,Int.toNat_natCast] <;> omega)) only [Nat.reduceLT,Nat.reduceLeDiff,Nat.reduceEqDiff,↓reduceIte,Int.reduceLT,Int.reduceLE,Int.reduceToNat,Int.reduceEq,Int.reduceNe,Nat.reduceAdd,UInt8.reduceOfNat,UInt16.reduceOfNat,UInt32.reduceOfNat,UInt64.reduceOfNat,UInt64.reduceToNat,UInt32.reduceToNat,UInt16.reduceToNat,UInt8.reduceToNat,Int.reduceAdd,Int.reduceSub,Int.reduceMul,Nat.reduceMul,Qp0,Ql0,Qe0]
  refine PW_loop (fun n f h' => ∃ (i : Nat) (y : UInt64), i ≤ m ∧ n = m - i ∧ y.toNat = x.toNat / 256 ^ i ∧ f 0 = some (u64 y) ∧ f 5 = some (.slice (some ⟨b, 0, none⟩) m m) ∧ f 6 = some (.int .i64 ((m : Int) - 1 - i)) ∧ h' = h.new b ⟨partN m x.toNat i, m⟩) (by kernel_rfl) m ⟨0, x, by omega, by omega, by simp, ?_, ?_, ?_, rfl⟩ ?_
  · simp -dsimp -implicitDefEqProofs (disch := first | omega | assumption | (simp only [Option.isSome_some,Qt0]; done) | (simp only [UInt64.reduceToNat,UInt32.reduceToNat,UInt8.reduceToNat,List.length_cons,List.length_nil,List.length_append,Int.toNat_natCast] <;> omega)) only [Nat.reduceLT,Nat.reduceLeDiff,Nat.reduceEqDiff,↓reduceIte,Int.reduceLT,Int.reduceLE,Int.reduceToNat,Int.reduceEq,Int.reduceNe,Nat.reduceAdd,UInt8.reduceOfNat,UInt16.reduceOfNat,UInt32.reduceOfNat,UInt64.reduceOfNat,UInt64.reduceToNat,UInt32.reduceToNat,UInt16.reduceToNat,UInt8.reduceToNat,Int.reduceAdd,Int.reduceSub,Int.reduceMul,Nat.reduceMul,Qp0,Ql0,Qe0]
  · simp -dsimp -implicitDefEqProofs (disch := first | omega | assumption | (simp only [Option.isSome_some,Qt0]; done) | (simp only [UInt64.reduceToNat,UInt32.reduceToNat,UInt8.reduceToNat,List.length_cons,List.length_nil,List.length_append,Int.toNat_natCast] <;> omega)) only [Nat.reduceLT,Nat.reduceLeDiff,Nat.reduceEqDiff,↓reduceIte,Int.reduceLT,Int.reduceLE,Int.reduceToNat,Int.reduceEq,Int.reduceNe,Nat.reduceAdd,UInt8.reduceOfNat,UInt16.reduceOfNat,UInt32.reduceOfNat,UInt64.reduceOfNat,UInt64.reduceToNat,UInt32.reduceToNat,UInt16.reduceToNat,UInt8.reduceToNat,Int.reduceAdd,Int.reduceSub,Int.reduceMul,Nat.reduceMul,Qp0,Ql0,Qe0]
  · simp -dsimp -implicitDefEqProofs (disch := first | omega | assumption | (simp only [Option.isSome_some,Qt0]; done) | (simp only [UInt64.reduceToNat,UInt32.reduceToNat,UInt8.reduceToNat,List.length_cons,List.length_nil,List.length_append,Int.toNat_natCast] <;> omega)) only [Nat.reduceLT,Nat.reduceLeDiff,Nat.reduceEqDiff,↓reduceIte,Int.reduceLT,Int.reduceLE,Int.reduceToNat,Int.reduceEq,Int.reduceNe,Nat.reduceAdd,UInt8.reduceOfNat,UInt16.reduceOfNat,UInt32.reduceOfNat,UInt64.reduceOfNat,UInt64.reduceToNat,UInt32.reduceToNat,UInt16.reduceToNat,UInt8.reduceToNat,Int.reduceAdd,Int.reduceSub,Int.reduceMul,Nat.reduceMul,Qp0,Ql0,Qe0]
    try simp
  rintro n f h' ⟨i, y, hi, rfl, hy, h0, h5, h6, rfl⟩
  by_cases hlt : i < m
  · have hl := partN_length m x.toNat i hi
    have hs := Lib.hid (partN_set m x.toNat i hlt)
    have hd := Lib.hid (div_step y x.toNat i hy)
    have hb8 := Lib.hid (rem_byte y x.toNat i hy)
    simp -dsimp -implicitDefEqProofs (disch := first | omega | assumption | (simp only [Option.isSome_some,Qt0]; done) | (simp only [UInt64.reduceToNat,UInt32.reduceToNat,UInt8.reduceToNat,List.length_cons,List.length_nil,List.length_append,Int.toNat_natCast] <;> omega)) only [Nat.reduceLT,Nat.reduceLeDiff,Nat.reduceEqDiff,↓reduceIte,Int.reduceLT,Int.reduceLE,Int.reduceToNat,Int.reduceEq,Int.reduceNe,Nat.reduceAdd,UInt8.reduceOfNat,UInt16.reduceOfNat,UInt32.reduceOfNat,UInt64.reduceOfNat,UInt64.reduceToNat,UInt32.reduceToNat,UInt16.reduceToNat,UInt8.reduceToNat,Int.reduceAdd,Int.reduceSub,Int.reduceMul,Nat.reduceMul,Qp0,Ql0,Qe0,h0,h5,h6,hl]
    have t1 : ((m : Int) - 1 - (i : Int)).toNat = m - 1 - i := by omega
    rw [t1, hb8.out, hs.out, PH.new_new]
    exact ⟨_, _, by omega, PH.Le.refl _, i + 1, y / 256, by omega, rfl, hd.out, rfl, trivial, by congr 2; omega, rfl⟩
  · obtain rfl : i = m := by omega
    simp -dsimp -implicitDefEqProofs (disch := first | omega | assumption | (simp only [Option.isSome_some,Qt0]; done) | (simp only [UInt64.reduceToNat,UInt32.reduceToNat,UInt8.reduceToNat,List.length_cons,List.length_nil,List.length_append,Int.toNat_natCast] <;> omega)) only [Nat.reduceLT,Nat.reduceLeDiff,Nat.reduceEqDiff,↓reduceIte,Int.reduceLT,Int.reduceLE,Int.reduceToNat,Int.reduceEq,Int.reduceNe,Nat.reduceAdd,UInt8.reduceOfNat,UInt16.reduceOfNat,UInt32.reduceOfNat,UInt64.reduceOfNat,UInt64.reduceToNat,UInt32.reduceToNat,UInt16.reduceToNat,UInt8.reduceToNat,Int.reduceAdd,Int.reduceSub,Int.reduceMul,Nat.reduceMul,Qp0,Ql0,Qe0,h0,h5,h6]
    refine ⟨_, PH.Le.refl _, b, rfl, hb, ?_⟩
    rw [show partN i x.toNat i = bs (Sha.be i x.toNat) by simp [partN]]
end Go.Proofs.YtdlaoeepeakpeaaGreat

