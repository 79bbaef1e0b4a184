/- Parts Wrd, Wdi, Wre, Wrf, Wrg, Wri, Wrj, joined. No condition. -/
import Derived.Test.YtdhgmifgjaedbaaM6B
/- The document's bytes: Bytes, Written. No condition. -/
namespace Go.Proofs.Ytdhgmifgjaedbaa
set_option linter.unusedVariables false
set_option linter.unusedSimpArgs false
open Go.RowKit Px Wr
set_option maxRecDepth 20000 in
set_option maxHeartbeats 2000000 in
theorem rbytes_any (x : It) (A : Option Addr) (cap : Nat) (hN : x.N ≤ 9223372036854775807) (hS : x.S.length ≤ 1000000) (hV : x.V.length ≤ 1000000) (hc : x.V.length ≤ cap) (w0 : World) (h : PH) (hr : Rv w0 h A (ints x.V)) : PCalls Try.prog w0 69 [.agg (itL x A cap).toArray] h fun r h' => r = .tuple #[str ((bytesI x).getD []), .bool (bytesI x).isSome] ∧ h' = h := by
  refine PCalls_body Try.func69 (by kernel_rfl) rfl _ Try.ntmps69 (by kernel_rfl) (by kernel_rfl) _ Try.results69 ?_
  unfold itL
  simp -dsimp -implicitDefEqProofs (disch := first | omega | assumption | (simp only [Option.isSome_some, Qt0]; done) | (simp only [UInt64.reduceToNat, UInt32.reduceToNat, UInt8.reduceToNat, List.length_cons, List.length_nil, List.length_append, Int.toNat_natCast] <;> omega) | fail) only [Nat.reduceLT, Nat.reduceLeDiff, Nat.reduceEqDiff, ↓reduceIte, Int.reduceLT, Int.reduceLE, Int.reduceToNat, Int.reduceEq, Int.reduceNe, Nat.reduceAdd, UInt8.reduceOfNat, UInt16.reduceOfNat, UInt32.reduceOfNat, UInt64.reduceOfNat, UInt64.reduceToNat, UInt32.reduceToNat, UInt16.reduceToNat, UInt8.reduceToNat, Int.reduceAdd, Int.reduceSub, Int.reduceMul, Nat.reduceMul, Qp0, Qp1, Ql0, Qe0]
  refine fun pb hpb => ?_
  have hle := (PH.Le.refl h).new pb ⟨[.int .i64 x.K, .int .i64 x.N, str x.S, .bool x.B, .slice A x.V.length cap], 5⟩ hpb
  have hp : (h.new pb ⟨[.int .i64 x.K, .int .i64 x.N, str x.S, .bool x.B, .slice A x.V.length cap], 5⟩).m pb = some ⟨[.int .i64 x.K, .int .i64 x.N, str x.S, .bool x.B, .slice A x.V.length cap], 5⟩ := by rw [PH.new_m, if_pos rfl]
  have hr1 := hr.more hle
  simp -dsimp -implicitDefEqProofs (disch := first | omega | assumption | (simp only [Option.isSome_some, Qt0]; done) | (simp only [UInt64.reduceToNat, UInt32.reduceToNat, UInt8.reduceToNat, List.length_cons, List.length_nil, List.length_append, Int.toNat_natCast] <;> omega) | fail) only [Nat.reduceLT, Nat.reduceLeDiff, Nat.reduceEqDiff, ↓reduceIte, Int.reduceLT, Int.reduceLE, Int.reduceToNat, Int.reduceEq, Int.reduceNe, Nat.reduceAdd, UInt8.reduceOfNat, UInt16.reduceOfNat, UInt32.reduceOfNat, UInt64.reduceOfNat, UInt64.reduceToNat, UInt32.reduceToNat, UInt16.reduceToNat, UInt8.reduceToNat, Int.reduceAdd, Int.reduceSub, Int.reduceMul, Nat.reduceMul, Qp0, Qp1, Ql0, Qe0]
  generalize h.new pb ⟨[.int .i64 x.K, .int .i64 x.N, str x.S, .bool x.B, .slice A x.V.length cap], 5⟩ = h1 at *
  by_cases k1 : x.K = 1
  · have e1 := decide_eq_true k1
    have hB : bytesI x = some (textB x.S) := by unfold bytesI; rw [if_pos k1]
    have hM := Lib.hid (rnumber_any x.S.length (by omega) w0 h1)
    have hl := numB_len9 (n := x.S.length) (by omega)
    rw [hB]
    simp -dsimp -implicitDefEqProofs (disch := first | omega | assumption | (simp only [Option.isSome_some, Qt0]; done) | (simp only [UInt64.reduceToNat, UInt32.reduceToNat, UInt8.reduceToNat, List.length_cons, List.length_nil, List.length_append, Int.toNat_natCast] <;> omega) | fail) only [Nat.reduceLT, Nat.reduceLeDiff, Nat.reduceEqDiff, ↓reduceIte, Int.reduceLT, Int.reduceLE, Int.reduceToNat, Int.reduceEq, Int.reduceNe, Nat.reduceAdd, UInt8.reduceOfNat, UInt16.reduceOfNat, UInt32.reduceOfNat, UInt64.reduceOfNat, UInt64.reduceToNat, UInt32.reduceToNat, UInt16.reduceToNat, UInt8.reduceToNat, Int.reduceAdd, Int.reduceSub, Int.reduceMul, Nat.reduceMul, Qp0, Qp1, Ql0, Qe0, rd_M, rdM_some, hp, e1]
    refine PW_plan [0, 1, 2, 4, 5, 3, 6, 7, 8] h1 (by kernel_rfl) (by decide +kernel) (by kernel_rfl) (by kernel_rfl) (by kernel_rfl) (fun c f h hq => by simp only [thenC_panic, thenK_panic, inBlk_panic, thenN_panic, vcRet_panic] at hq) (PH.Le.refl _).sub ?_
    simp -dsimp -implicitDefEqProofs (disch := first | omega | assumption | (simp only [Option.isSome_some, Qt0]; done) | (simp only [UInt64.reduceToNat, UInt32.reduceToNat, UInt8.reduceToNat, List.length_cons, List.length_nil, List.length_append, Int.toNat_natCast] <;> omega) | fail) only [Nat.reduceLT, Nat.reduceLeDiff, Nat.reduceEqDiff, ↓reduceIte, Int.reduceLT, Int.reduceLE, Int.reduceToNat, Int.reduceEq, Int.reduceNe, Nat.reduceAdd, UInt8.reduceOfNat, UInt16.reduceOfNat, UInt32.reduceOfNat, UInt64.reduceOfNat, UInt64.reduceToNat, UInt32.reduceToNat, UInt16.reduceToNat, UInt8.reduceToNat, Int.reduceAdd, Int.reduceSub, Int.reduceMul, Nat.reduceMul, Qp0, Qp1, Ql0, Qe0, rd_M, rdM_some, hp]
    refine hM.out.mono ?_
    rintro v hq ⟨rfl, hz⟩
    obtain rfl := hz.symm
    refine ⟨(PH.Le.refl _).sub, ?_⟩
    simp -dsimp -implicitDefEqProofs (disch := first | omega | assumption | (simp only [Option.isSome_some, Qt0]; done) | (simp only [UInt64.reduceToNat, UInt32.reduceToNat, UInt8.reduceToNat, List.length_cons, List.length_nil, List.length_append, Int.toNat_natCast] <;> omega) | fail) only [Nat.reduceLT, Nat.reduceLeDiff, Nat.reduceEqDiff, ↓reduceIte, Int.reduceLT, Int.reduceLE, Int.reduceToNat, Int.reduceEq, Int.reduceNe, Nat.reduceAdd, UInt8.reduceOfNat, UInt16.reduceOfNat, UInt32.reduceOfNat, UInt64.reduceOfNat, UInt64.reduceToNat, UInt32.reduceToNat, UInt16.reduceToNat, UInt8.reduceToNat, Int.reduceAdd, Int.reduceSub, Int.reduceMul, Nat.reduceMul, Qp0, Qp1, Ql0, Qe0, rd_M, rdM_some, hp]
    exact ⟨_, hle, by first | rfl | trivial, rfl⟩
  have e1 := decide_eq_false k1
  by_cases k2 : x.K = 2
  · have e2 := decide_eq_true k2
    have hB : bytesI x = some (flagB x.B) := by unfold bytesI; rw [if_neg k1, if_pos k2]
    rw [hB]
    have hM1 := Lib.hid (rnumber_any 1 (by omega) w0 h1)
    have hM0 := Lib.hid (rnumber_any 0 (by omega) w0 h1)
    cases hb : x.B with
    | true =>
      rw [hb] at hp
      simp -dsimp -implicitDefEqProofs (disch := first | omega | assumption | (simp only [Option.isSome_some, Qt0]; done) | (simp only [UInt64.reduceToNat, UInt32.reduceToNat, UInt8.reduceToNat, List.length_cons, List.length_nil, List.length_append, Int.toNat_natCast] <;> omega) | fail) only [Nat.reduceLT, Nat.reduceLeDiff, Nat.reduceEqDiff, ↓reduceIte, Int.reduceLT, Int.reduceLE, Int.reduceToNat, Int.reduceEq, Int.reduceNe, Nat.reduceAdd, UInt8.reduceOfNat, UInt16.reduceOfNat, UInt32.reduceOfNat, UInt64.reduceOfNat, UInt64.reduceToNat, UInt32.reduceToNat, UInt16.reduceToNat, UInt8.reduceToNat, Int.reduceAdd, Int.reduceSub, Int.reduceMul, Nat.reduceMul, Qp0, Qp1, Ql0, Qe0, rd_M, rdM_some, hp, e1, e2]
      refine hM1.out.mono ?_
      rintro v hq ⟨rfl, hz⟩
      obtain rfl := hz.symm
      simp -dsimp -implicitDefEqProofs (disch := first | omega | assumption | (simp only [Option.isSome_some, Qt0]; done) | (simp only [UInt64.reduceToNat, UInt32.reduceToNat, UInt8.reduceToNat, List.length_cons, List.length_nil, List.length_append, Int.toNat_natCast] <;> omega) | fail) only [Nat.reduceLT, Nat.reduceLeDiff, Nat.reduceEqDiff, ↓reduceIte, Int.reduceLT, Int.reduceLE, Int.reduceToNat, Int.reduceEq, Int.reduceNe, Nat.reduceAdd, UInt8.reduceOfNat, UInt16.reduceOfNat, UInt32.reduceOfNat, UInt64.reduceOfNat, UInt64.reduceToNat, UInt32.reduceToNat, UInt16.reduceToNat, UInt8.reduceToNat, Int.reduceAdd, Int.reduceSub, Int.reduceMul, Nat.reduceMul, Qp0, Qp1, Ql0, Qe0]
      exact ⟨_, hle, by first | rfl | trivial, rfl⟩
    | false =>
      rw [hb] at hp
      simp -dsimp -implicitDefEqProofs (disch := first | omega | assumption | (simp only [Option.isSome_some, Qt0]; done) | (simp only [UInt64.reduceToNat, UInt32.reduceToNat, UInt8.reduceToNat, List.length_cons, List.length_nil, List.length_append, Int.toNat_natCast] <;> omega) | fail) only [Nat.reduceLT, Nat.reduceLeDiff, Nat.reduceEqDiff, ↓reduceIte, Int.reduceLT, Int.reduceLE, Int.reduceToNat, Int.reduceEq, Int.reduceNe, Nat.reduceAdd, UInt8.reduceOfNat, UInt16.reduceOfNat, UInt32.reduceOfNat, UInt64.reduceOfNat, UInt64.reduceToNat, UInt32.reduceToNat, UInt16.reduceToNat, UInt8.reduceToNat, Int.reduceAdd, Int.reduceSub, Int.reduceMul, Nat.reduceMul, Qp0, Qp1, Ql0, Qe0, rd_M, rdM_some, hp, e1, e2]
      refine hM0.out.mono ?_
      rintro v hq ⟨rfl, hz⟩
      obtain rfl := hz.symm
      simp -dsimp -implicitDefEqProofs (disch := first | omega | assumption | (simp only [Option.isSome_some, Qt0]; done) | (simp only [UInt64.reduceToNat, UInt32.reduceToNat, UInt8.reduceToNat, List.length_cons, List.length_nil, List.length_append, Int.toNat_natCast] <;> omega) | fail) only [Nat.reduceLT, Nat.reduceLeDiff, Nat.reduceEqDiff, ↓reduceIte, Int.reduceLT, Int.reduceLE, Int.reduceToNat, Int.reduceEq, Int.reduceNe, Nat.reduceAdd, UInt8.reduceOfNat, UInt16.reduceOfNat, UInt32.reduceOfNat, UInt64.reduceOfNat, UInt64.reduceToNat, UInt32.reduceToNat, UInt16.reduceToNat, UInt8.reduceToNat, Int.reduceAdd, Int.reduceSub, Int.reduceMul, Nat.reduceMul, Qp0, Qp1, Ql0, Qe0]
      exact ⟨_, hle, by first | rfl | trivial, rfl⟩
  have e2 := decide_eq_false k2
  by_cases k3 : x.K = 3
  · have e3 := decide_eq_true k3
    have hT := PCalls_low fun hl => rtrimmed_any w0 h1 hl A cap x.V 4611686018427387903 hr1 hc (by omega)
    cases ht : trim x.V 4611686018427387903 with
    | false =>
      have hB : bytesI x = none := by unfold bytesI; rw [if_neg k1, if_neg k2, if_pos k3, ht, if_neg (by simp)]
      rw [hB]
      rw [ht] at hT
      have hT := Lib.hid hT
      simp -dsimp -implicitDefEqProofs (disch := first | omega | assumption | (simp only [Option.isSome_some, Qt0]; done) | (simp only [UInt64.reduceToNat, UInt32.reduceToNat, UInt8.reduceToNat, List.length_cons, List.length_nil, List.length_append, Int.toNat_natCast] <;> omega) | fail) only [Nat.reduceLT, Nat.reduceLeDiff, Nat.reduceEqDiff, ↓reduceIte, Int.reduceLT, Int.reduceLE, Int.reduceToNat, Int.reduceEq, Int.reduceNe, Nat.reduceAdd, UInt8.reduceOfNat, UInt16.reduceOfNat, UInt32.reduceOfNat, UInt64.reduceOfNat, UInt64.reduceToNat, UInt32.reduceToNat, UInt16.reduceToNat, UInt8.reduceToNat, Int.reduceAdd, Int.reduceSub, Int.reduceMul, Nat.reduceMul, Qp0, Qp1, Ql0, Qe0, rd_M, rdM_some, hp, e1, e2, e3]
      refine hT.out.mono ?_
      rintro v hq ⟨rfl, hz⟩
      obtain rfl := hz.symm
      simp -dsimp -implicitDefEqProofs (disch := first | omega | assumption | (simp only [Option.isSome_some, Qt0]; done) | (simp only [UInt64.reduceToNat, UInt32.reduceToNat, UInt8.reduceToNat, List.length_cons, List.length_nil, List.length_append, Int.toNat_natCast] <;> omega) | fail) only [Nat.reduceLT, Nat.reduceLeDiff, Nat.reduceEqDiff, ↓reduceIte, Int.reduceLT, Int.reduceLE, Int.reduceToNat, Int.reduceEq, Int.reduceNe, Nat.reduceAdd, UInt8.reduceOfNat, UInt16.reduceOfNat, UInt32.reduceOfNat, UInt64.reduceOfNat, UInt64.reduceToNat, UInt32.reduceToNat, UInt16.reduceToNat, UInt8.reduceToNat, Int.reduceAdd, Int.reduceSub, Int.reduceMul, Nat.reduceMul, Qp0, Qp1, Ql0, Qe0]
      exact ⟨_, hle, by first | rfl | trivial, rfl⟩
    | true =>
      have hB : bytesI x = some (vecB x.V) := by unfold bytesI; rw [if_neg k1, if_neg k2, if_pos k3, ht, if_pos rfl]
      rw [hB]
      rw [ht] at hT
      have hT := Lib.hid hT
      have h16 := trim_len ht
      have hall := trim_iff.1 ht
      have hM := Lib.hid (rnumber_any x.V.length (by omega) w0 h1)
      simp -dsimp -implicitDefEqProofs (disch := first | omega | assumption | (simp only [Option.isSome_some, Qt0]; done) | (simp only [UInt64.reduceToNat, UInt32.reduceToNat, UInt8.reduceToNat, List.length_cons, List.length_nil, List.length_append, Int.toNat_natCast] <;> omega) | fail) only [Nat.reduceLT, Nat.reduceLeDiff, Nat.reduceEqDiff, ↓reduceIte, Int.reduceLT, Int.reduceLE, Int.reduceToNat, Int.reduceEq, Int.reduceNe, Nat.reduceAdd, UInt8.reduceOfNat, UInt16.reduceOfNat, UInt32.reduceOfNat, UInt64.reduceOfNat, UInt64.reduceToNat, UInt32.reduceToNat, UInt16.reduceToNat, UInt8.reduceToNat, Int.reduceAdd, Int.reduceSub, Int.reduceMul, Nat.reduceMul, Qp0, Qp1, Ql0, Qe0, rd_M, rdM_some, hp, e1, e2, e3]
      refine hT.out.mono ?_
      rintro v hq ⟨rfl, hz⟩
      obtain rfl := hz.symm
      simp -dsimp -implicitDefEqProofs (disch := first | omega | assumption | (simp only [Option.isSome_some, Qt0]; done) | (simp only [UInt64.reduceToNat, UInt32.reduceToNat, UInt8.reduceToNat, List.length_cons, List.length_nil, List.length_append, Int.toNat_natCast] <;> omega) | fail) only [Nat.reduceLT, Nat.reduceLeDiff, Nat.reduceEqDiff, ↓reduceIte, Int.reduceLT, Int.reduceLE, Int.reduceToNat, Int.reduceEq, Int.reduceNe, Nat.reduceAdd, UInt8.reduceOfNat, UInt16.reduceOfNat, UInt32.reduceOfNat, UInt64.reduceOfNat, UInt64.reduceToNat, UInt32.reduceToNat, UInt16.reduceToNat, UInt8.reduceToNat, Int.reduceAdd, Int.reduceSub, Int.reduceMul, Nat.reduceMul, Qp0, Qp1, Ql0, Qe0, rd_M, rdM_some, hp]
      refine hM.out.mono ?_
      rintro v hq ⟨rfl, hz⟩
      obtain rfl := hz.symm
      simp -dsimp -implicitDefEqProofs (disch := first | omega | assumption | (simp only [Option.isSome_some, Qt0]; done) | (simp only [UInt64.reduceToNat, UInt32.reduceToNat, UInt8.reduceToNat, List.length_cons, List.length_nil, List.length_append, Int.toNat_natCast] <;> omega) | fail) only [Nat.reduceLT, Nat.reduceLeDiff, Nat.reduceEqDiff, ↓reduceIte, Int.reduceLT, Int.reduceLE, Int.reduceToNat, Int.reduceEq, Int.reduceNe, Nat.reduceAdd, UInt8.reduceOfNat, UInt16.reduceOfNat, UInt32.reduceOfNat, UInt64.reduceOfNat, UInt64.reduceToNat, UInt32.reduceToNat, UInt16.reduceToNat, UInt8.reduceToNat, Int.reduceAdd, Int.reduceSub, Int.reduceMul, Nat.reduceMul, Qp0, Qp1, Ql0, Qe0, rd_M, rdM_some, hp]
      refine PW_loopL (fun n f h' => ∃ i : Nat, n + i = x.V.length ∧ f 1 = some (.pointer (some ⟨pb, 0, none⟩)) ∧ f 4 = some (str (numB x.V.length ++ (x.V.take i).flatMap fun n => numB n.toNat)) ∧ f 5 = some (.int .i64 i) ∧ h' = h1) (by kernel_rfl) x.V.length ⟨0, by omega, ?_, ?_, ?_, rfl⟩ ?_
      · simp -dsimp -implicitDefEqProofs (disch := first | omega | assumption | (simp only [Option.isSome_some, Qt0]; done) | (simp only [UInt64.reduceToNat, UInt32.reduceToNat, UInt8.reduceToNat, List.length_cons, List.length_nil, List.length_append, Int.toNat_natCast] <;> omega) | fail) only [Nat.reduceLT, Nat.reduceLeDiff, Nat.reduceEqDiff, ↓reduceIte, Int.reduceLT, Int.reduceLE, Int.reduceToNat, Int.reduceEq, Int.reduceNe, Nat.reduceAdd, UInt8.reduceOfNat, UInt16.reduceOfNat, UInt32.reduceOfNat, UInt64.reduceOfNat, UInt64.reduceToNat, UInt32.reduceToNat, UInt16.reduceToNat, UInt8.reduceToNat, Int.reduceAdd, Int.reduceSub, Int.reduceMul, Nat.reduceMul, Qp0, Qp1, Ql0, Qe0]
      · simp -dsimp -implicitDefEqProofs (disch := first | omega | assumption | (simp only [Option.isSome_some, Qt0]; done) | (simp only [UInt64.reduceToNat, UInt32.reduceToNat, UInt8.reduceToNat, List.length_cons, List.length_nil, List.length_append, Int.toNat_natCast] <;> omega) | fail) only [Nat.reduceLT, Nat.reduceLeDiff, Nat.reduceEqDiff, ↓reduceIte, Int.reduceLT, Int.reduceLE, Int.reduceToNat, Int.reduceEq, Int.reduceNe, Nat.reduceAdd, UInt8.reduceOfNat, UInt16.reduceOfNat, UInt32.reduceOfNat, UInt64.reduceOfNat, UInt64.reduceToNat, UInt32.reduceToNat, UInt16.reduceToNat, UInt8.reduceToNat, Int.reduceAdd, Int.reduceSub, Int.reduceMul, Nat.reduceMul, Qp0, Qp1, Ql0, Qe0]
        simp
      · simp -dsimp -implicitDefEqProofs (disch := first | omega | assumption | (simp only [Option.isSome_some, Qt0]; done) | (simp only [UInt64.reduceToNat, UInt32.reduceToNat, UInt8.reduceToNat, List.length_cons, List.length_nil, List.length_append, Int.toNat_natCast] <;> omega) | fail) only [Nat.reduceLT, Nat.reduceLeDiff, Nat.reduceEqDiff, ↓reduceIte, Int.reduceLT, Int.reduceLE, Int.reduceToNat, Int.reduceEq, Int.reduceNe, Nat.reduceAdd, UInt8.reduceOfNat, UInt16.reduceOfNat, UInt32.reduceOfNat, UInt64.reduceOfNat, UInt64.reduceToNat, UInt32.reduceToNat, UInt16.reduceToNat, UInt8.reduceToNat, Int.reduceAdd, Int.reduceSub, Int.reduceMul, Nat.reduceMul, Qp0, Qp1, Ql0, Qe0]
        try rfl
      rintro n f h' ⟨i, hni, f1, f4, f5, rfl⟩ hl'
      have hlen : (numB x.V.length ++ (x.V.take i).flatMap fun n => numB n.toNat).length ≤ 1000 := by
        have h5 := numB_len9 (n := x.V.length) (by omega)
        have h6 := flat_len_le (x.V.take i) (fun n hn => by have := trim_all ht n (List.mem_of_mem_take hn); omega)
        simp only [List.length_append]
        simp only [List.length_take] at h6
        omega
      by_cases hi : i < x.V.length
      · have e4 : decide ((i : Int) < (x.V.length : Int)) = true := decide_eq_true (by omega)
        have hb := hall.2.2 i hi
        have hN := rnumber_any (x.V.getD i 0).toNat (by omega) w0 h'
        have hnl := numB_len9 (n := (x.V.getD i 0).toNat) (by omega)
        rw [show (((x.V.getD i 0).toNat : Nat) : Int) = x.V.getD i 0 by omega] at hN
        have hN := Lib.hid hN
        obtain ⟨b, o, rfl⟩ := hr.addr (by simp [ints]; omega)
        have hg := hr1.get hl' (j := i) (u := .int .i64 (x.V.getD i 0)) (by rw [ints, List.getElem?_map, List.getD, List.getElem?_eq_getElem hi]; rfl)
        have hnx : (numB x.V.length ++ (x.V.take i).flatMap fun n => numB n.toNat) ++ numB (x.V.getD i 0).toNat = numB x.V.length ++ (x.V.take (i + 1)).flatMap fun n => numB n.toNat := by rw [vecB_take _ _ hi, List.append_assoc]
        generalize (numB x.V.length ++ (x.V.take i).flatMap fun n => numB n.toNat) = C at *
        simp -dsimp -implicitDefEqProofs (disch := first | omega | assumption | (simp only [Option.isSome_some, Qt0]; done) | (simp only [UInt64.reduceToNat, UInt32.reduceToNat, UInt8.reduceToNat, List.length_cons, List.length_nil, List.length_append, Int.toNat_natCast] <;> omega) | fail) only [Nat.reduceLT, Nat.reduceLeDiff, Nat.reduceEqDiff, ↓reduceIte, Int.reduceLT, Int.reduceLE, Int.reduceToNat, Int.reduceEq, Int.reduceNe, Nat.reduceAdd, UInt8.reduceOfNat, UInt16.reduceOfNat, UInt32.reduceOfNat, UInt64.reduceOfNat, UInt64.reduceToNat, UInt32.reduceToNat, UInt16.reduceToNat, UInt8.reduceToNat, Int.reduceAdd, Int.reduceSub, Int.reduceMul, Nat.reduceMul, Qp0, Qp1, Ql0, Qe0, f1, f4, f5, rd_M, rdM_some, hp, e4, hg]
        refine hN.out.mono ?_
        rintro v hq ⟨rfl, hz⟩
        obtain rfl := hz.symm
        simp -dsimp -implicitDefEqProofs (disch := first | omega | assumption | (simp only [Option.isSome_some, Qt0]; done) | (simp only [UInt64.reduceToNat, UInt32.reduceToNat, UInt8.reduceToNat, List.length_cons, List.length_nil, List.length_append, Int.toNat_natCast] <;> omega) | fail) only [Nat.reduceLT, Nat.reduceLeDiff, Nat.reduceEqDiff, ↓reduceIte, Int.reduceLT, Int.reduceLE, Int.reduceToNat, Int.reduceEq, Int.reduceNe, Nat.reduceAdd, UInt8.reduceOfNat, UInt16.reduceOfNat, UInt32.reduceOfNat, UInt64.reduceOfNat, UInt64.reduceToNat, UInt32.reduceToNat, UInt16.reduceToNat, UInt8.reduceToNat, Int.reduceAdd, Int.reduceSub, Int.reduceMul, Nat.reduceMul, Qp0, Qp1, Ql0, Qe0, f1, f4, f5, rd_M, rdM_some, hp]
        exact ⟨n - 1, _, by omega, PH.Le.refl _, i + 1, by omega, by trivial, by rw [← hnx], by simp, rfl⟩
      · obtain rfl : i = x.V.length := by omega
        have e4 : decide ((x.V.length : Int) < (x.V.length : Int)) = false := decide_eq_false (by omega)
        rw [List.take_length] at f4
        simp -dsimp -implicitDefEqProofs (disch := first | omega | assumption | (simp only [Option.isSome_some, Qt0]; done) | (simp only [UInt64.reduceToNat, UInt32.reduceToNat, UInt8.reduceToNat, List.length_cons, List.length_nil, List.length_append, Int.toNat_natCast] <;> omega) | fail) only [Nat.reduceLT, Nat.reduceLeDiff, Nat.reduceEqDiff, ↓reduceIte, Int.reduceLT, Int.reduceLE, Int.reduceToNat, Int.reduceEq, Int.reduceNe, Nat.reduceAdd, UInt8.reduceOfNat, UInt16.reduceOfNat, UInt32.reduceOfNat, UInt64.reduceOfNat, UInt64.reduceToNat, UInt32.reduceToNat, UInt16.reduceToNat, UInt8.reduceToNat, Int.reduceAdd, Int.reduceSub, Int.reduceMul, Nat.reduceMul, Qp0, Qp1, Ql0, Qe0, f1, f4, f5, rd_M, rdM_some, hp, e4]
        exact ⟨_, hle, by first | rfl | trivial, rfl⟩
  have e3 := decide_eq_false k3
  by_cases hneg : x.N < 0
  · have e4 := decide_eq_true hneg
    have hB : bytesI x = none := by unfold bytesI; rw [if_neg k1, if_neg k2, if_neg k3, if_pos (.inl hneg)]
    rw [hB]
    simp -dsimp -implicitDefEqProofs (disch := first | omega | assumption | (simp only [Option.isSome_some, Qt0]; done) | (simp only [UInt64.reduceToNat, UInt32.reduceToNat, UInt8.reduceToNat, List.length_cons, List.length_nil, List.length_append, Int.toNat_natCast] <;> omega) | fail) only [Nat.reduceLT, Nat.reduceLeDiff, Nat.reduceEqDiff, ↓reduceIte, Int.reduceLT, Int.reduceLE, Int.reduceToNat, Int.reduceEq, Int.reduceNe, Nat.reduceAdd, UInt8.reduceOfNat, UInt16.reduceOfNat, UInt32.reduceOfNat, UInt64.reduceOfNat, UInt64.reduceToNat, UInt32.reduceToNat, UInt16.reduceToNat, UInt8.reduceToNat, Int.reduceAdd, Int.reduceSub, Int.reduceMul, Nat.reduceMul, Qp0, Qp1, Ql0, Qe0, rd_M, rdM_some, hp, e1, e2, e3, e4]
    exact ⟨_, hle, by first | rfl | trivial, rfl⟩
  have e4 := decide_eq_false hneg
  by_cases hbig : x.N > 4611686018427387903
  · have e5 := decide_eq_true hbig
    have hB : bytesI x = none := by unfold bytesI; rw [if_neg k1, if_neg k2, if_neg k3, if_pos (.inr hbig)]
    rw [hB]
    simp -dsimp -implicitDefEqProofs (disch := first | omega | assumption | (simp only [Option.isSome_some, Qt0]; done) | (simp only [UInt64.reduceToNat, UInt32.reduceToNat, UInt8.reduceToNat, List.length_cons, List.length_nil, List.length_append, Int.toNat_natCast] <;> omega) | fail) only [Nat.reduceLT, Nat.reduceLeDiff, Nat.reduceEqDiff, ↓reduceIte, Int.reduceLT, Int.reduceLE, Int.reduceToNat, Int.reduceEq, Int.reduceNe, Nat.reduceAdd, UInt8.reduceOfNat, UInt16.reduceOfNat, UInt32.reduceOfNat, UInt64.reduceOfNat, UInt64.reduceToNat, UInt32.reduceToNat, UInt16.reduceToNat, UInt8.reduceToNat, Int.reduceAdd, Int.reduceSub, Int.reduceMul, Nat.reduceMul, Qp0, Qp1, Ql0, Qe0, rd_M, rdM_some, hp, e1, e2, e3, e4, e5]
    exact ⟨_, hle, by first | rfl | trivial, rfl⟩
  have e5 := decide_eq_false hbig
  have hB : bytesI x = some (numB x.N.toNat) := by unfold bytesI; rw [if_neg k1, if_neg k2, if_neg k3, if_neg (by omega)]
  rw [hB]
  have hM := rnumber_any x.N.toNat (by omega) w0 h1
  rw [show ((x.N.toNat : Nat) : Int) = x.N by omega] at hM
  have hM := Lib.hid hM
  simp -dsimp -implicitDefEqProofs (disch := first | omega | assumption | (simp only [Option.isSome_some, Qt0]; done) | (simp only [UInt64.reduceToNat, UInt32.reduceToNat, UInt8.reduceToNat, List.length_cons, List.length_nil, List.length_append, Int.toNat_natCast] <;> omega) | fail) only [Nat.reduceLT, Nat.reduceLeDiff, Nat.reduceEqDiff, ↓reduceIte, Int.reduceLT, Int.reduceLE, Int.reduceToNat, Int.reduceEq, Int.reduceNe, Nat.reduceAdd, UInt8.reduceOfNat, UInt16.reduceOfNat, UInt32.reduceOfNat, UInt64.reduceOfNat, UInt64.reduceToNat, UInt32.reduceToNat, UInt16.reduceToNat, UInt8.reduceToNat, Int.reduceAdd, Int.reduceSub, Int.reduceMul, Nat.reduceMul, Qp0, Qp1, Ql0, Qe0, rd_M, rdM_some, hp, e1, e2, e3, e4, e5]
  refine hM.out.mono ?_
  rintro v hq ⟨rfl, hz⟩
  obtain rfl := hz.symm
  simp -dsimp -implicitDefEqProofs (disch := first | omega | assumption | (simp only [Option.isSome_some, Qt0]; done) | (simp only [UInt64.reduceToNat, UInt32.reduceToNat, UInt8.reduceToNat, List.length_cons, List.length_nil, List.length_append, Int.toNat_natCast] <;> omega) | fail) only [Nat.reduceLT, Nat.reduceLeDiff, Nat.reduceEqDiff, ↓reduceIte, Int.reduceLT, Int.reduceLE, Int.reduceToNat, Int.reduceEq, Int.reduceNe, Nat.reduceAdd, UInt8.reduceOfNat, UInt16.reduceOfNat, UInt32.reduceOfNat, UInt64.reduceOfNat, UInt64.reduceToNat, UInt32.reduceToNat, UInt16.reduceToNat, UInt8.reduceToNat, Int.reduceAdd, Int.reduceSub, Int.reduceMul, Nat.reduceMul, Qp0, Qp1, Ql0, Qe0]
  exact ⟨_, hle, by first | rfl | trivial, rfl⟩
/-- A row of items. -/
def Items (w0 : World) (h : PH) (A : Option Addr) (L : List It) : Prop :=
  ∀ (i : Nat) (x : It), L[i]? = some x → x.N ≤ 9223372036854775807 ∧ x.S.length ≤ 900000 ∧ x.V.length ≤ 900000 ∧ ∃ b o Ai cap, A = some ⟨b, o, none⟩ ∧ x.V.length ≤ cap ∧ Rv w0 h Ai (ints x.V) ∧ ∀ h', PH.Le h h' → Low w0 h' → rdN w0 h' ⟨b, o + i * 5, none⟩ 5 = some (itL x Ai cap)
def wres : WS → Value
  | (l, none) => .tuple #[str l, .int .i64 0, .int .i64 0]
  | (_, some (k, p)) => .tuple #[str [], .int .i64 k, .int .i64 p]
set_option maxRecDepth 20000 in
set_option maxHeartbeats 2000000 in
theorem written_any (w0 : World) (h : PH) (A : Option Addr) (c : Nat) (L : List It) (hL : L.length ≤ 1000000) (hr : Items w0 h A L) : PCalls Try.prog w0 47 [.slice A L.length c] h fun r h' => r = wres (writtenM L) ∧ PH.Le h h' := by
  refine PCalls_body Try.func47 (by kernel_rfl) rfl _ Try.ntmps47 (by kernel_rfl) (by kernel_rfl) _ Try.results47 ?_
  simp -dsimp -implicitDefEqProofs (disch := first | omega | assumption | (simp only [Option.isSome_some, Qt0]; done) | (simp only [UInt64.reduceToNat, UInt32.reduceToNat, UInt8.reduceToNat, List.length_cons, List.length_nil, List.length_append, Int.toNat_natCast] <;> omega) | fail) only [Nat.reduceLT, Nat.reduceLeDiff, Nat.reduceEqDiff, ↓reduceIte, Int.reduceLT, Int.reduceLE, Int.reduceToNat, Int.reduceEq, Int.reduceNe, Nat.reduceAdd, UInt8.reduceOfNat, UInt16.reduceOfNat, UInt32.reduceOfNat, UInt64.reduceOfNat, UInt64.reduceToNat, UInt32.reduceToNat, UInt16.reduceToNat, UInt8.reduceToNat, Int.reduceAdd, Int.reduceSub, Int.reduceMul, Nat.reduceMul, Qp0, Qp1, Ql0, Qe0]
  refine Does_zero el_u8 fun b0 hb0 => ?_
  simp -dsimp -implicitDefEqProofs (disch := first | omega | assumption | (simp only [Option.isSome_some, Qt0]; done) | (simp only [UInt64.reduceToNat, UInt32.reduceToNat, UInt8.reduceToNat, List.length_cons, List.length_nil, List.length_append, Int.toNat_natCast] <;> omega) | fail) only [Nat.reduceLT, Nat.reduceLeDiff, Nat.reduceEqDiff, ↓reduceIte, Int.reduceLT, Int.reduceLE, Int.reduceToNat, Int.reduceEq, Int.reduceNe, Nat.reduceAdd, UInt8.reduceOfNat, UInt16.reduceOfNat, UInt32.reduceOfNat, UInt64.reduceOfNat, UInt64.reduceToNat, UInt32.reduceToNat, UInt16.reduceToNat, UInt8.reduceToNat, Int.reduceAdd, Int.reduceSub, Int.reduceMul, Nat.reduceMul, Qp0, Qp1, Ql0, Qe0]
  refine PW_loopL (fun n f h' => ∃ (i : Nat) (out : List UInt8) (v : Value), n + i = L.length ∧ f 0 = some (.slice A L.length c) ∧ f 5 = some v ∧ f 6 = some (.int .i64 i) ∧ out.length ≤ 65536 ∧ OwnS h h' 1 v out.length (bs out) ∧ (L.take i).foldl stepI ([], none) = (out, none)) (by kernel_rfl) L.length ⟨0, [], _, by omega, ?_, ?_, ?_, by simp, OwnS.zero 1 hb0, rfl⟩ ?_
  · simp -dsimp -implicitDefEqProofs (disch := first | omega | assumption | (simp only [Option.isSome_some, Qt0]; done) | (simp only [UInt64.reduceToNat, UInt32.reduceToNat, UInt8.reduceToNat, List.length_cons, List.length_nil, List.length_append, Int.toNat_natCast] <;> omega) | fail) only [Nat.reduceLT, Nat.reduceLeDiff, Nat.reduceEqDiff, ↓reduceIte, Int.reduceLT, Int.reduceLE, Int.reduceToNat, Int.reduceEq, Int.reduceNe, Nat.reduceAdd, UInt8.reduceOfNat, UInt16.reduceOfNat, UInt32.reduceOfNat, UInt64.reduceOfNat, UInt64.reduceToNat, UInt32.reduceToNat, UInt16.reduceToNat, UInt8.reduceToNat, Int.reduceAdd, Int.reduceSub, Int.reduceMul, Nat.reduceMul, Qp0, Qp1, Ql0, Qe0]
  · simp -dsimp -implicitDefEqProofs (disch := first | omega | assumption | (simp only [Option.isSome_some, Qt0]; done) | (simp only [UInt64.reduceToNat, UInt32.reduceToNat, UInt8.reduceToNat, List.length_cons, List.length_nil, List.length_append, Int.toNat_natCast] <;> omega) | fail) only [Nat.reduceLT, Nat.reduceLeDiff, Nat.reduceEqDiff, ↓reduceIte, Int.reduceLT, Int.reduceLE, Int.reduceToNat, Int.reduceEq, Int.reduceNe, Nat.reduceAdd, UInt8.reduceOfNat, UInt16.reduceOfNat, UInt32.reduceOfNat, UInt64.reduceOfNat, UInt64.reduceToNat, UInt32.reduceToNat, UInt16.reduceToNat, UInt8.reduceToNat, Int.reduceAdd, Int.reduceSub, Int.reduceMul, Nat.reduceMul, Qp0, Qp1, Ql0, Qe0]
  · simp -dsimp -implicitDefEqProofs (disch := first | omega | assumption | (simp only [Option.isSome_some, Qt0]; done) | (simp only [UInt64.reduceToNat, UInt32.reduceToNat, UInt8.reduceToNat, List.length_cons, List.length_nil, List.length_append, Int.toNat_natCast] <;> omega) | fail) only [Nat.reduceLT, Nat.reduceLeDiff, Nat.reduceEqDiff, ↓reduceIte, Int.reduceLT, Int.reduceLE, Int.reduceToNat, Int.reduceEq, Int.reduceNe, Nat.reduceAdd, UInt8.reduceOfNat, UInt16.reduceOfNat, UInt32.reduceOfNat, UInt64.reduceOfNat, UInt64.reduceToNat, UInt32.reduceToNat, UInt16.reduceToNat, UInt8.reduceToNat, Int.reduceAdd, Int.reduceSub, Int.reduceMul, Nat.reduceMul, Qp0, Qp1, Ql0, Qe0]
    try rfl
  rintro n f h' ⟨i, out, v, hni, f0, f5, f6, hol, how, hW⟩ hl'
  obtain ⟨Ao, co, rfl, hco⟩ := how.own.len
  by_cases hi : i < L.length
  · have e1 : decide ((i : Int) < (L.length : Int)) = true := decide_eq_true (by omega)
    obtain ⟨x, hx⟩ : ∃ x, L[i]? = some x := ⟨_, List.getElem?_eq_getElem hi⟩
    obtain ⟨hxN, hxS, hxV, b, o, Ai, cap, rfl, hcap, hrv, hrd⟩ := hr i x hx
    have hrd := hrd h' how.le hl'
    have hB := rbytes_any x Ai cap hxN (by omega) (by omega) hcap w0 h' (hrv.more how.le)
    have hnext := writtenM_next hx
    rw [hW] at hnext
    unfold stepI at hnext
    simp only [Option.isSome_none, Bool.false_eq_true, if_false] at hnext
    cases hb : bytesI x with
    | none =>
      rw [hb] at hnext
      rw [writtenM_bad hnext rfl]
      have hg1 : (none : Option (List UInt8)).getD [] = [] := rfl
      have hg2 : (none : Option (List UInt8)).isSome = false := rfl
      rw [hb, hg1, hg2] at hB
      have hB := Lib.hid hB
      simp -dsimp -implicitDefEqProofs (disch := first | omega | assumption | (simp only [Option.isSome_some, Qt0]; done) | (simp only [UInt64.reduceToNat, UInt32.reduceToNat, UInt8.reduceToNat, List.length_cons, List.length_nil, List.length_append, Int.toNat_natCast] <;> omega) | fail) only [Nat.reduceLT, Nat.reduceLeDiff, Nat.reduceEqDiff, ↓reduceIte, Int.reduceLT, Int.reduceLE, Int.reduceToNat, Int.reduceEq, Int.reduceNe, Nat.reduceAdd, UInt8.reduceOfNat, UInt16.reduceOfNat, UInt32.reduceOfNat, UInt64.reduceOfNat, UInt64.reduceToNat, UInt32.reduceToNat, UInt16.reduceToNat, UInt8.reduceToNat, Int.reduceAdd, Int.reduceSub, Int.reduceMul, Nat.reduceMul, Qp0, Qp1, Ql0, Qe0, f0, f5, f6, e1, hrd]
      refine hB.out.mono ?_
      rintro v hq ⟨rfl, hz⟩
      obtain rfl := hz.symm
      simp -dsimp -implicitDefEqProofs (disch := first | omega | assumption | (simp only [Option.isSome_some, Qt0]; done) | (simp only [UInt64.reduceToNat, UInt32.reduceToNat, UInt8.reduceToNat, List.length_cons, List.length_nil, List.length_append, Int.toNat_natCast] <;> omega) | fail) only [Nat.reduceLT, Nat.reduceLeDiff, Nat.reduceEqDiff, ↓reduceIte, Int.reduceLT, Int.reduceLE, Int.reduceToNat, Int.reduceEq, Int.reduceNe, Nat.reduceAdd, UInt8.reduceOfNat, UInt16.reduceOfNat, UInt32.reduceOfNat, UInt64.reduceOfNat, UInt64.reduceToNat, UInt32.reduceToNat, UInt16.reduceToNat, UInt8.reduceToNat, Int.reduceAdd, Int.reduceSub, Int.reduceMul, Nat.reduceMul, Qp0, Qp1, Ql0, Qe0, f0, f5, f6]
      exact ⟨_, PH.Le.refl _, by first | rfl | trivial, how.le⟩
    | some y =>
      rw [hb] at hnext
      simp only at hnext
      unfold putM at hnext
      simp only [Option.isSome_none, Bool.false_eq_true, if_false] at hnext
      have hg1 : (some y : Option (List UInt8)).getD [] = y := rfl
      have hg2 : (some y : Option (List UInt8)).isSome = true := rfl
      rw [hb, hg1, hg2] at hB
      have hB := Lib.hid hB
      by_cases hlong : 65536 < out.length + y.length
      · rw [if_pos hlong] at hnext
        rw [writtenM_bad hnext rfl]
        have e2 : decide ((y.length : Int) > 65536 - (out.length : Int)) = true := decide_eq_true (by omega)
        simp -dsimp -implicitDefEqProofs (disch := first | omega | assumption | (simp only [Option.isSome_some, Qt0]; done) | (simp only [UInt64.reduceToNat, UInt32.reduceToNat, UInt8.reduceToNat, List.length_cons, List.length_nil, List.length_append, Int.toNat_natCast] <;> omega) | fail) only [Nat.reduceLT, Nat.reduceLeDiff, Nat.reduceEqDiff, ↓reduceIte, Int.reduceLT, Int.reduceLE, Int.reduceToNat, Int.reduceEq, Int.reduceNe, Nat.reduceAdd, UInt8.reduceOfNat, UInt16.reduceOfNat, UInt32.reduceOfNat, UInt64.reduceOfNat, UInt64.reduceToNat, UInt32.reduceToNat, UInt16.reduceToNat, UInt8.reduceToNat, Int.reduceAdd, Int.reduceSub, Int.reduceMul, Nat.reduceMul, Qp0, Qp1, Ql0, Qe0, f0, f5, f6, e1, hrd]
        refine hB.out.mono ?_
        rintro v hq ⟨rfl, hz⟩
        obtain rfl := hz.symm
        simp -dsimp -implicitDefEqProofs (disch := first | omega | assumption | (simp only [Option.isSome_some, Qt0]; done) | (simp only [UInt64.reduceToNat, UInt32.reduceToNat, UInt8.reduceToNat, List.length_cons, List.length_nil, List.length_append, Int.toNat_natCast] <;> omega) | fail) only [Nat.reduceLT, Nat.reduceLeDiff, Nat.reduceEqDiff, ↓reduceIte, Int.reduceLT, Int.reduceLE, Int.reduceToNat, Int.reduceEq, Int.reduceNe, Nat.reduceAdd, UInt8.reduceOfNat, UInt16.reduceOfNat, UInt32.reduceOfNat, UInt64.reduceOfNat, UInt64.reduceToNat, UInt32.reduceToNat, UInt16.reduceToNat, UInt8.reduceToNat, Int.reduceAdd, Int.reduceSub, Int.reduceMul, Nat.reduceMul, Qp0, Qp1, Ql0, Qe0, f0, f5, f6, e2]
        exact ⟨_, PH.Le.refl _, by first | rfl | trivial, how.le⟩
      · rw [if_neg hlong] at hnext
        have e2 : decide ((y.length : Int) > 65536 - (out.length : Int)) = false := decide_eq_false (by omega)
        simp -dsimp -implicitDefEqProofs (disch := first | omega | assumption | (simp only [Option.isSome_some, Qt0]; done) | (simp only [UInt64.reduceToNat, UInt32.reduceToNat, UInt8.reduceToNat, List.length_cons, List.length_nil, List.length_append, Int.toNat_natCast] <;> omega) | fail) only [Nat.reduceLT, Nat.reduceLeDiff, Nat.reduceEqDiff, ↓reduceIte, Int.reduceLT, Int.reduceLE, Int.reduceToNat, Int.reduceEq, Int.reduceNe, Nat.reduceAdd, UInt8.reduceOfNat, UInt16.reduceOfNat, UInt32.reduceOfNat, UInt64.reduceOfNat, UInt64.reduceToNat, UInt32.reduceToNat, UInt16.reduceToNat, UInt8.reduceToNat, Int.reduceAdd, Int.reduceSub, Int.reduceMul, Nat.reduceMul, Qp0, Qp1, Ql0, Qe0, f0, f5, f6, e1, hrd]
        refine hB.out.mono ?_
        rintro v hq ⟨rfl, hz⟩
        obtain rfl := hz.symm
        simp -dsimp -implicitDefEqProofs (disch := first | omega | assumption | (simp only [Option.isSome_some, Qt0]; done) | (simp only [UInt64.reduceToNat, UInt32.reduceToNat, UInt8.reduceToNat, List.length_cons, List.length_nil, List.length_append, Int.toNat_natCast] <;> omega) | fail) only [Nat.reduceLT, Nat.reduceLeDiff, Nat.reduceEqDiff, ↓reduceIte, Int.reduceLT, Int.reduceLE, Int.reduceToNat, Int.reduceEq, Int.reduceNe, Nat.reduceAdd, UInt8.reduceOfNat, UInt16.reduceOfNat, UInt32.reduceOfNat, UInt64.reduceOfNat, UInt64.reduceToNat, UInt32.reduceToNat, UInt16.reduceToNat, UInt8.reduceToNat, Int.reduceAdd, Int.reduceSub, Int.reduceMul, Nat.reduceMul, Qp0, Qp1, Ql0, Qe0, f0, f5, f6, e2]
        refine Does_appT el_u8 Try.underlying9 how.own (by omega) (fun v' h4 ho hst _ => ?_)
        rw [← List.length_append, ← bs_append] at ho
        simp -dsimp -implicitDefEqProofs (disch := first | omega | assumption | (simp only [Option.isSome_some, Qt0]; done) | (simp only [UInt64.reduceToNat, UInt32.reduceToNat, UInt8.reduceToNat, List.length_cons, List.length_nil, List.length_append, Int.toNat_natCast] <;> omega) | fail) only [Nat.reduceLT, Nat.reduceLeDiff, Nat.reduceEqDiff, ↓reduceIte, Int.reduceLT, Int.reduceLE, Int.reduceToNat, Int.reduceEq, Int.reduceNe, Nat.reduceAdd, UInt8.reduceOfNat, UInt16.reduceOfNat, UInt32.reduceOfNat, UInt64.reduceOfNat, UInt64.reduceToNat, UInt32.reduceToNat, UInt16.reduceToNat, UInt8.reduceToNat, Int.reduceAdd, Int.reduceSub, Int.reduceMul, Nat.reduceMul, Qp0, Qp1, Ql0, Qe0, f0, f5, f6]
        exact ⟨n - 1, _, by omega, PH.Le.refl _, i + 1, out ++ y, v', by omega, by trivial, by trivial, by simp, by simp; omega, how.stays hst ho, hnext⟩
  · have e1 : decide ((i : Int) < (L.length : Int)) = false := decide_eq_false (by omega)
    have hW' : writtenM L = (out, none) := by unfold writtenM; rw [← hW, List.take_of_length_le (by omega)]
    rw [hW']
    simp -dsimp -implicitDefEqProofs (disch := first | omega | assumption | (simp only [Option.isSome_some, Qt0]; done) | (simp only [UInt64.reduceToNat, UInt32.reduceToNat, UInt8.reduceToNat, List.length_cons, List.length_nil, List.length_append, Int.toNat_natCast] <;> omega) | fail) only [Nat.reduceLT, Nat.reduceLeDiff, Nat.reduceEqDiff, ↓reduceIte, Int.reduceLT, Int.reduceLE, Int.reduceToNat, Int.reduceEq, Int.reduceNe, Nat.reduceAdd, UInt8.reduceOfNat, UInt16.reduceOfNat, UInt32.reduceOfNat, UInt64.reduceOfNat, UInt64.reduceToNat, UInt32.reduceToNat, UInt16.reduceToNat, UInt8.reduceToNat, Int.reduceAdd, Int.reduceSub, Int.reduceMul, Nat.reduceMul, Qp0, Qp1, Ql0, Qe0, f0, f5, f6, e1]
    refine vtext_own Try.underlying57 Try.underlying5 Try.underlying9 (Rs.own how.own) how.own.nil_zero ?_
    simp -dsimp -implicitDefEqProofs (disch := first | omega | assumption | (simp only [Option.isSome_some, Qt0]; done) | (simp only [UInt64.reduceToNat, UInt32.reduceToNat, UInt8.reduceToNat, List.length_cons, List.length_nil, List.length_append, Int.toNat_natCast] <;> omega) | fail) only [Nat.reduceLT, Nat.reduceLeDiff, Nat.reduceEqDiff, ↓reduceIte, Int.reduceLT, Int.reduceLE, Int.reduceToNat, Int.reduceEq, Int.reduceNe, Nat.reduceAdd, UInt8.reduceOfNat, UInt16.reduceOfNat, UInt32.reduceOfNat, UInt64.reduceOfNat, UInt64.reduceToNat, UInt32.reduceToNat, UInt16.reduceToNat, UInt8.reduceToNat, Int.reduceAdd, Int.reduceSub, Int.reduceMul, Nat.reduceMul, Qp0, Qp1, Ql0, Qe0, f0, f5, f6]
    exact ⟨_, PH.Le.refl _, by first | rfl | trivial, how.le⟩
end Go.Proofs.Ytdhgmifgjaedbaa


/- Rows of items. No condition. -/
namespace Go.Proofs.Ytdhgmifgjaedbaa
set_option linter.unusedVariables false
set_option linter.unusedSimpArgs false
open Go.RowKit Px Wr
theorem info_it : (Try.prog.info? 93).map (fun i => (i.zero, i.size, i.bytes)) = some (some (.agg #[.int .i64 0, .int .i64 0, .string ⟨#[]⟩, .bool false, .slice none 0 0]), 5, 64) := by kernel_rfl
theorem el_it : El Try.prog 95 93 (.agg #[.int .i64 0, .int .i64 0, .string ⟨#[]⟩, .bool false, .slice none 0 0]) 5 64 := ⟨Try.underlying95, info_parts info_it, rfl, by decide⟩
theorem flat_chunk {α : Type} (g : α → List Value) (m : Nat) (hg : ∀ a, (g a).length = m) : ∀ (L : List α) (i : Nat) (a : α), L[i]? = some a → ((L.flatMap g).drop (i * m)).take m = g a ∧ i * m + m ≤ (L.flatMap g).length
  | [], i, a, h => by simp at h
  | x :: L, 0, a, h => by
    simp at h
    subst h
    have := hg x
    simp only [List.flatMap_cons, Nat.zero_mul, List.drop_zero, List.length_append]
    exact ⟨by rw [← this, List.take_left], by omega⟩
  | x :: L, i + 1, a, h => by
    obtain ⟨h1, h2⟩ := flat_chunk g m hg L i a (by simpa using h)
    have := hg x
    simp only [List.flatMap_cons, List.length_append]
    refine ⟨?_, by rw [Nat.add_mul]; omega⟩
    rw [← h1, show (i + 1) * m = (g x).length + i * m by rw [this, Nat.add_mul]; omega, ← List.drop_drop, List.drop_left]
theorem itL_length (p : It × Option Addr × Nat) : (itL p.1 p.2.1 p.2.2).length = 5 := rfl
theorem Items.lit {w0 : World} {h : PH} {lb lim : Nat} (Ls : List (It × Option Addr × Nat)) (hm : h.m lb = some ⟨Ls.flatMap fun p => itL p.1 p.2.1 p.2.2, lim⟩)
    (hb : ∀ p ∈ Ls, p.1.N ≤ 9223372036854775807 ∧ p.1.S.length ≤ 900000 ∧ p.1.V.length ≤ 900000 ∧ p.1.V.length ≤ p.2.2 ∧ Rv w0 h p.2.1 (ints p.1.V)) : Items w0 h (some ⟨lb, 0, none⟩) (Ls.map (·.1)) := fun i x hx => by
  rw [List.getElem?_map] at hx
  obtain ⟨p, hp, rfl⟩ := Option.map_eq_some_iff.1 hx
  obtain ⟨h1, h2, h3, h4, h5⟩ := hb p (List.mem_of_getElem? hp)
  refine ⟨h1, h2, h3, lb, 0, p.2.1, p.2.2, rfl, h4, h5, fun h' hl _ => ?_⟩
  obtain ⟨g1, g2⟩ := flat_chunk (fun p : It × Option Addr × Nat => itL p.1 p.2.1 p.2.2) 5 itL_length Ls i p hp
  unfold rdN
  simp only [hl.m _ _ hm]
  rw [if_pos ⟨trivial, by simpa using g2⟩, Nat.zero_add, g1]
def tI (y : List UInt8) : It := ⟨1, 0, y, false, []⟩
def nI (n : Int) : It := ⟨0, n, [], false, []⟩
def fI (b : Bool) : It := ⟨2, 0, [], b, []⟩
def vI (v : List Int) : It := ⟨3, 0, [], false, v⟩
theorem step_t (s : WS) (y : List UInt8) : stepI s (tI y) = textM s y := by rw [← itemM_eq]; rfl
theorem step_n (s : WS) (n : Int) : stepI s (nI n) = numM s n := by rw [← itemM_eq]; rfl
theorem step_f (s : WS) (b : Bool) : stepI s (fI b) = flagM s b := by rw [← itemM_eq]; rfl
theorem step_v (s : WS) (v : List Int) : stepI s (vI v) = vecM s v := by rw [← itemM_eq]; rfl
end Go.Proofs.Ytdhgmifgjaedbaa


/- The document's bytes of claims and of writes. No condition. -/
namespace Go.Proofs.Ytdhgmifgjaedbaa
set_option linter.unusedVariables false
set_option linter.unusedSimpArgs false
open Go.RowKit Px Wr
set_option maxRecDepth 20000 in
set_option maxHeartbeats 4000000 in
theorem bytesW_any (w0 : World) (h : PH) (c : Wt) (A : Option Addr) (cap : Nat) (hr : Rv w0 h A (ints c.d)) (hc : c.d.length ≤ cap) (hb : rightW c = true) : PCalls Try.prog w0 46 [.agg (wtL c A cap).toArray] h fun r h' => r = str (bytesW c) ∧ PH.Le h h' := by
  have hri := rightW_iff.1 hb
  have hx := trim_len (hri.2.2.2.2.2.1)
  refine PCalls_body Try.func46 (by kernel_rfl) rfl _ Try.ntmps46 (by kernel_rfl) (by kernel_rfl) _ Try.results46 ?_
  unfold wtL
  simp -dsimp -implicitDefEqProofs (disch := first | omega | assumption | (simp only [Option.isSome_some, Qt0]; done) | (simp only [UInt64.reduceToNat, UInt32.reduceToNat, UInt8.reduceToNat, List.length_cons, List.length_nil, List.length_append, Int.toNat_natCast] <;> omega) | fail) only [Nat.reduceLT, Nat.reduceLeDiff, Nat.reduceEqDiff, ↓reduceIte, Int.reduceLT, Int.reduceLE, Int.reduceToNat, Int.reduceEq, Int.reduceNe, Nat.reduceAdd, UInt8.reduceOfNat, UInt16.reduceOfNat, UInt32.reduceOfNat, UInt64.reduceOfNat, UInt64.reduceToNat, UInt32.reduceToNat, UInt16.reduceToNat, UInt8.reduceToNat, Int.reduceAdd, Int.reduceSub, Int.reduceMul, Nat.reduceMul, Qp0, Qp1, Ql0, Qe0]
  refine fun pb hpb => ?_
  have hle := (PH.Le.refl h).new pb ⟨[.int .i64 c.r, .int .i64 c.n, .int .i64 c.t, .int .i64 c.q, .slice A c.d.length cap, str c.s, str c.k, str c.v, .bool c.g, .int .i64 c.l], 10⟩ hpb
  have hp : (h.new pb ⟨[.int .i64 c.r, .int .i64 c.n, .int .i64 c.t, .int .i64 c.q, .slice A c.d.length cap, str c.s, str c.k, str c.v, .bool c.g, .int .i64 c.l], 10⟩).m pb = some ⟨[.int .i64 c.r, .int .i64 c.n, .int .i64 c.t, .int .i64 c.q, .slice A c.d.length cap, str c.s, str c.k, str c.v, .bool c.g, .int .i64 c.l], 10⟩ := by rw [PH.new_m, if_pos rfl]
  have hr1 := hr.more hle
  simp -dsimp -implicitDefEqProofs (disch := first | omega | assumption | (simp only [Option.isSome_some, Qt0]; done) | (simp only [UInt64.reduceToNat, UInt32.reduceToNat, UInt8.reduceToNat, List.length_cons, List.length_nil, List.length_append, Int.toNat_natCast] <;> omega) | fail) only [Nat.reduceLT, Nat.reduceLeDiff, Nat.reduceEqDiff, ↓reduceIte, Int.reduceLT, Int.reduceLE, Int.reduceToNat, Int.reduceEq, Int.reduceNe, Nat.reduceAdd, UInt8.reduceOfNat, UInt16.reduceOfNat, UInt32.reduceOfNat, UInt64.reduceOfNat, UInt64.reduceToNat, UInt32.reduceToNat, UInt16.reduceToNat, UInt8.reduceToNat, Int.reduceAdd, Int.reduceSub, Int.reduceMul, Nat.reduceMul, Qp0, Qp1, Ql0, Qe0]
  generalize h.new pb ⟨[.int .i64 c.r, .int .i64 c.n, .int .i64 c.t, .int .i64 c.q, .slice A c.d.length cap, str c.s, str c.k, str c.v, .bool c.g, .int .i64 c.l], 10⟩ = h1 at *
  simp -dsimp -implicitDefEqProofs (disch := first | omega | assumption | (simp only [Option.isSome_some, Qt0]; done) | (simp only [UInt64.reduceToNat, UInt32.reduceToNat, UInt8.reduceToNat, List.length_cons, List.length_nil, List.length_append, Int.toNat_natCast] <;> omega) | fail) only [Nat.reduceLT, Nat.reduceLeDiff, Nat.reduceEqDiff, ↓reduceIte, Int.reduceLT, Int.reduceLE, Int.reduceToNat, Int.reduceEq, Int.reduceNe, Nat.reduceAdd, UInt8.reduceOfNat, UInt16.reduceOfNat, UInt32.reduceOfNat, UInt64.reduceOfNat, UInt64.reduceToNat, UInt32.reduceToNat, UInt16.reduceToNat, UInt8.reduceToNat, Int.reduceAdd, Int.reduceSub, Int.reduceMul, Nat.reduceMul, Qp0, Qp1, Ql0, Qe0, rd_M, rdM_some, hp]
  refine Does_lit (vs := [.agg (itL (nI c.r) none 0).toArray, .agg (itL (nI c.n) none 0).toArray, .agg (itL (nI c.t) none 0).toArray, .agg (itL (vI c.d) A cap).toArray, .agg (itL (tI c.s) none 0).toArray, .agg (itL (tI c.k) none 0).toArray, .agg (itL (fI c.g) none 0).toArray, .agg (itL (tI c.v) none 0).toArray, .agg (itL (nI c.l) none 0).toArray]) (sz := 5) (n := 9) el_it rfl rfl (by simp [cellsL, Value.cells, itL]) (by omega) (by omega) (fun lb hlb => ?_)
  have hl2 := (PH.Le.refl h1).new lb ⟨[.agg (itL (nI c.r) none 0).toArray, .agg (itL (nI c.n) none 0).toArray, .agg (itL (nI c.t) none 0).toArray, .agg (itL (vI c.d) A cap).toArray, .agg (itL (tI c.s) none 0).toArray, .agg (itL (tI c.k) none 0).toArray, .agg (itL (fI c.g) none 0).toArray, .agg (itL (tI c.v) none 0).toArray, .agg (itL (nI c.l) none 0).toArray].flatMap cellsL, 9 * 5⟩ hlb
  have hm2 : (h1.new lb ⟨[.agg (itL (nI c.r) none 0).toArray, .agg (itL (nI c.n) none 0).toArray, .agg (itL (nI c.t) none 0).toArray, .agg (itL (vI c.d) A cap).toArray, .agg (itL (tI c.s) none 0).toArray, .agg (itL (tI c.k) none 0).toArray, .agg (itL (fI c.g) none 0).toArray, .agg (itL (tI c.v) none 0).toArray, .agg (itL (nI c.l) none 0).toArray].flatMap cellsL, 9 * 5⟩).m lb = some ⟨[(nI c.r, none, 0), (nI c.n, none, 0), (nI c.t, none, 0), (vI c.d, A, cap), (tI c.s, none, 0), (tI c.k, none, 0), (fI c.g, none, 0), (tI c.v, none, 0), (nI c.l, none, 0)].flatMap fun p : It × Option Addr × Nat => itL p.1 p.2.1 p.2.2, 9 * 5⟩ := by rw [PH.new_m, if_pos rfl]; rfl
  generalize h1.new lb ⟨[.agg (itL (nI c.r) none 0).toArray, .agg (itL (nI c.n) none 0).toArray, .agg (itL (nI c.t) none 0).toArray, .agg (itL (vI c.d) A cap).toArray, .agg (itL (tI c.s) none 0).toArray, .agg (itL (tI c.k) none 0).toArray, .agg (itL (fI c.g) none 0).toArray, .agg (itL (tI c.v) none 0).toArray, .agg (itL (nI c.l) none 0).toArray].flatMap cellsL, 9 * 5⟩ = h2 at *
  have hI := Items.lit (w0 := w0) _ hm2 (fun p hp => by
    simp only [List.mem_cons, List.not_mem_nil, or_false] at hp
    rcases hp with rfl | rfl | rfl | rfl | rfl | rfl | rfl | rfl | rfl
    all_goals
      simp only [tI, nI, fI, vI, List.length_nil]
      refine ⟨by omega, by omega, by omega, by omega, ?_⟩
      first | exact Rv.nil _ _ _ | exact hr1.more hl2)
  have hW := written_any w0 h2 _ 9 _ (by simp) hI
  have hch : writtenM [nI c.r, nI c.n, nI c.t, vI c.d, tI c.s, tI c.k, fI c.g, tI c.v, nI c.l] = (bytesW c, none) := by
    unfold writtenM
    simp only [List.foldl_cons, List.foldl_nil, step_t, step_n, step_f, step_v]
    exact encW_chain hb
  simp only [List.map_cons, List.map_nil, List.length_cons, List.length_nil, Nat.zero_add, Nat.reduceAdd, hch] at hW
  have hW := Lib.hid hW
  simp -dsimp -implicitDefEqProofs (disch := first | omega | assumption | (simp only [Option.isSome_some, Qt0]; done) | (simp only [UInt64.reduceToNat, UInt32.reduceToNat, UInt8.reduceToNat, List.length_cons, List.length_nil, List.length_append, Int.toNat_natCast] <;> omega) | fail) only [Nat.reduceLT, Nat.reduceLeDiff, Nat.reduceEqDiff, ↓reduceIte, Int.reduceLT, Int.reduceLE, Int.reduceToNat, Int.reduceEq, Int.reduceNe, Nat.reduceAdd, UInt8.reduceOfNat, UInt16.reduceOfNat, UInt32.reduceOfNat, UInt64.reduceOfNat, UInt64.reduceToNat, UInt32.reduceToNat, UInt16.reduceToNat, UInt8.reduceToNat, Int.reduceAdd, Int.reduceSub, Int.reduceMul, Nat.reduceMul, Qp0, Qp1, Ql0, Qe0]
  refine hW.out.mono ?_
  rintro v q ⟨hv, hl3⟩
  have hv : v = .tuple #[str (bytesW c), .int .i64 0, .int .i64 0] := by
    rw [hv]
    first | rw [hch] | (show wres (writtenM [nI c.r, nI c.n, nI c.t, vI c.d, tI c.s, tI c.k, fI c.g, tI c.v, nI c.l]) = _; rw [hch])
    rfl
  subst hv
  simp -dsimp -implicitDefEqProofs (disch := first | omega | assumption | (simp only [Option.isSome_some, Qt0]; done) | (simp only [UInt64.reduceToNat, UInt32.reduceToNat, UInt8.reduceToNat, List.length_cons, List.length_nil, List.length_append, Int.toNat_natCast] <;> omega) | fail) only [Nat.reduceLT, Nat.reduceLeDiff, Nat.reduceEqDiff, ↓reduceIte, Int.reduceLT, Int.reduceLE, Int.reduceToNat, Int.reduceEq, Int.reduceNe, Nat.reduceAdd, UInt8.reduceOfNat, UInt16.reduceOfNat, UInt32.reduceOfNat, UInt64.reduceOfNat, UInt64.reduceToNat, UInt32.reduceToNat, UInt16.reduceToNat, UInt8.reduceToNat, Int.reduceAdd, Int.reduceSub, Int.reduceMul, Nat.reduceMul, Qp0, Qp1, Ql0, Qe0]
  exact ⟨_, PH.Le.refl _, by first | rfl | trivial, (hle.trans hl2).trans hl3⟩
end Go.Proofs.Ytdhgmifgjaedbaa


/- What is read as claims: the plain law. No condition. -/
namespace Go.Proofs.Ytdhgmifgjaedbaa
set_option linter.unusedVariables false
set_option linter.unusedSimpArgs false
open Go.RowKit Px Wr
theorem step_back {α : Type} {p : List UInt8 → Option (α × List UInt8)} {z a : α} {n : Nat} {st : St} {u : List UInt8} (h : st.step p z n = (a, .ok u)) : ∃ t, st = .ok t ∧ p t = some (a, u) := by
  cases st with
  | bad q => simp [St.step] at h
  | ok t =>
    refine ⟨t, rfl, ?_⟩
    unfold St.step at h
    cases hp : p t with
    | none => simp [hp] at h
    | some q =>
      obtain ⟨b, v⟩ := q
      simp [hp] at h
      rw [h.1, h.2]
theorem numS_back {m : Int} {n x : Nat} {st : St} {u : List UInt8} (h : numS m n st = (x, .ok u)) : st = .ok (numB x ++ u) ∧ x ≤ 4611686018427387903 := by
  obtain ⟨t, h1, h2⟩ := step_back h
  obtain ⟨h3, _, h4⟩ := numP_inv h2
  exact ⟨by rw [h1, h3], h4⟩
theorem txtS_back {m : Int} {n : Nat} {y : List UInt8} {st : St} {u : List UInt8} (h : txtS m n st = (y, .ok u)) : st = .ok (textB y ++ u) := by
  obtain ⟨t, h1, h2⟩ := step_back h
  rw [h1, (txtP_inv h2).1]; rfl
theorem flagS_back {n : Nat} {b : Bool} {st : St} {u : List UInt8} (h : flagS n st = (b, .ok u)) : st = .ok (flagB b ++ u) := by
  obtain ⟨t, h1, h2⟩ := step_back h
  rw [h1, flagP_inv h2]
theorem vecS_back {n : Nat} {v : List Int} {st : St} {u : List UInt8} (h : vecS n st = (v, .ok u)) : st = .ok (vecB v ++ u) ∧ trim v 1099511627776 = true := by
  obtain ⟨t, h1, h2⟩ := step_back h
  obtain ⟨h3, h4⟩ := vecP_inv h2
  exact ⟨by rw [h1, h3], h4⟩
theorem numS_fwd {m : Int} {n : Nat} {x : Int} {u : List UInt8} (h0 : 0 ≤ x) (h1 : x ≤ m) (h2 : x ≤ 1099511627776) : numS m n (.ok (numB x.toNat ++ u)) = (x.toNat, .ok u) :=
  numS_ok n (numP_put u (by omega) (by unfold top62; omega))
theorem txtS_fwd {m : Int} {n : Nat} {y u : List UInt8} (h1 : (y.length : Int) ≤ m) (h2 : y.length ≤ 1000) : txtS m n (.ok (textB y ++ u)) = (y, .ok u) := by
  have := txtP_put u h1 (by unfold top62; omega)
  unfold txtS St.step textB
  simp only [this]
theorem flagS_fwd {n : Nat} {b : Bool} {u : List UInt8} : flagS n (.ok (flagB b ++ u)) = (b, .ok u) := by
  unfold flagS St.step; simp only [flagP_put]
theorem vecS_fwd {n : Nat} {v : List Int} {u : List UInt8} (h : trim v 1099511627776 = true) : vecS n (.ok (vecB v ++ u)) = (v, .ok u) := by
  have := vecP_put u h
  unfold vecS St.step; simp only [this]
/-- The claims whose bytes these are. -/
def IsC (s : List UInt8) (c : Cl) : Prop := rightC c = true ∧ s = bytesC c
def IsW (s : List UInt8) (c : Wt) : Prop := rightW c = true ∧ s = bytesW c
structure ChC (m1 m2 m3 : Int) (n : Nat) (s : List UInt8) (x1 x2 : List UInt8) (x3 x4 x5 : Nat) (x6 : List Int) (s1 s2 s3 s4 s5 s6 : St) : Prop where
  e1 : (x1, s1) = txtS m1 n (.ok s)
  e2 : (x2, s2) = txtS m2 n s1
  e3 : (x3, s3) = numS m3 n s2
  e4 : (x4, s4) = numS m3 n s3
  e5 : (x5, s5) = numS m3 n s4
  e6 : (x6, s6) = vecS n s5
theorem ChC.back {m1 m2 m3 : Int} {n : Nat} {s x1 x2 : List UInt8} {x3 x4 x5 : Nat} {x6 : List Int} {s1 s2 s3 s4 s5 s6 : St} (c : ChC m1 m2 m3 n s x1 x2 x3 x4 x5 x6 s1 s2 s3 s4 s5 s6) (h : s6 = .ok []) : s = bytesC ⟨x1, x2, x3, x4, x5, x6⟩ := by
  subst h
  obtain ⟨rfl, h6⟩ := vecS_back c.e6.symm
  obtain ⟨rfl, h5⟩ := numS_back c.e5.symm
  obtain ⟨rfl, h4⟩ := numS_back c.e4.symm
  obtain ⟨rfl, h3⟩ := numS_back c.e3.symm
  have := txtS_back c.e2.symm
  subst this
  have := txtS_back c.e1.symm
  injection this with this
  rw [this]
  unfold bytesC
  simp
theorem ChC.fwd {m1 m2 m3 : Int} {n : Nat} {s x1 x2 : List UInt8} {x3 x4 x5 : Nat} {x6 : List Int} {s1 s2 s3 s4 s5 s6 : St} (c : ChC m1 m2 m3 n s x1 x2 x3 x4 x5 x6 s1 s2 s3 s4 s5 s6) (h1 : 64 ≤ m1) (h2 : 32 ≤ m2) (h3 : 1099511627776 ≤ m3) {d : Cl} (hd : IsC s d) : d = ⟨x1, x2, x3, x4, x5, x6⟩ ∧ s6 = .ok [] := by
  obtain ⟨hr, rfl⟩ := hd
  obtain ⟨r1, r2, r3, r4, ⟨r5, r6⟩, ⟨r7, r8⟩, ⟨r9, r10⟩, r11⟩ := rightC_iff.1 hr
  have e1 := c.e1
  unfold bytesC at e1
  rw [txtS_fwd (by omega) (by omega)] at e1
  injection e1 with a1 b1
  have e2 := c.e2
  rw [b1, txtS_fwd (by omega) (by omega)] at e2
  injection e2 with a2 b2
  have e3 := c.e3
  rw [b2, numS_fwd r5 (by omega) (by omega)] at e3
  injection e3 with a3 b3
  have e4 := c.e4
  rw [b3, numS_fwd r7 (by omega) (by omega)] at e4
  injection e4 with a4 b4
  have e5 := c.e5
  rw [b4, numS_fwd r9 (by omega) (by omega)] at e5
  injection e5 with a5 b5
  have e6 := c.e6
  rw [b5, ← List.append_nil (vecB d.x), vecS_fwd r11] at e6
  injection e6 with a6 b6
  exact ⟨Cl.ext' a1.symm a2.symm (by rw [a3]; simp only; omega) (by rw [a4]; simp only; omega) (by rw [a5]; simp only; omega) a6.symm, b6⟩
structure ChW (m1 m2 m3 m4 m5 : Int) (n : Nat) (s : List UInt8) (x1 x2 x3 : Nat) (x4 : List Int) (x5 x6 : List UInt8) (x7 : Bool) (x8 : List UInt8) (x9 : Nat) (s1 s2 s3 s4 s5 s6 s7 s8 s9 : St) : Prop where
  e1 : (x1, s1) = numS m1 n (.ok s)
  e2 : (x2, s2) = numS m2 n s1
  e3 : (x3, s3) = numS m2 n s2
  e4 : (x4, s4) = vecS n s3
  e5 : (x5, s5) = txtS m3 n s4
  e6 : (x6, s6) = txtS m4 n s5
  e7 : (x7, s7) = flagS n s6
  e8 : (x8, s8) = txtS m5 n s7
  e9 : (x9, s9) = numS m2 n s8
section
variable {m1 m2 m3 m4 m5 : Int} {n : Nat} {s : List UInt8} {x1 x2 x3 : Nat} {x4 : List Int} {x5 x6 : List UInt8} {x7 : Bool} {x8 : List UInt8} {x9 : Nat} {s1 s2 s3 s4 s5 s6 s7 s8 s9 : St}
theorem ChW.back (c : ChW m1 m2 m3 m4 m5 n s x1 x2 x3 x4 x5 x6 x7 x8 x9 s1 s2 s3 s4 s5 s6 s7 s8 s9) (h : s9 = .ok []) : s = bytesW ⟨x1, x2, x3, x1, x4, x5, x6, x8, x7, x9⟩ := by
  subst h
  obtain ⟨rfl, _⟩ := numS_back c.e9.symm
  have := txtS_back c.e8.symm
  subst this
  have := flagS_back c.e7.symm
  subst this
  have := txtS_back c.e6.symm
  subst this
  have := txtS_back c.e5.symm
  subst this
  obtain ⟨rfl, _⟩ := vecS_back c.e4.symm
  obtain ⟨rfl, _⟩ := numS_back c.e3.symm
  obtain ⟨rfl, _⟩ := numS_back c.e2.symm
  obtain ⟨h1, _⟩ := numS_back c.e1.symm
  injection h1 with h1
  rw [h1]
  unfold bytesW
  simp
theorem ChW.fwd (c : ChW m1 m2 m3 m4 m5 n s x1 x2 x3 x4 x5 x6 x7 x8 x9 s1 s2 s3 s4 s5 s6 s7 s8 s9) (h1 : 16 ≤ m1) (h2 : 1099511627776 ≤ m2) (h3 : 64 ≤ m3) (h4 : 32 ≤ m4) (h5 : 128 ≤ m5) {d : Wt} (hd : IsW s d) : d = ⟨x1, x2, x3, x1, x4, x5, x6, x8, x7, x9⟩ ∧ s9 = .ok [] := by
  obtain ⟨hr, rfl⟩ := hd
  obtain ⟨r1, r2, ⟨r3, r4⟩, r5, ⟨r6, r7⟩, r8, r9, r10, r11, r12, _, ⟨r13, r14⟩⟩ := rightW_iff.1 hr
  have e1 := c.e1
  unfold bytesW at e1
  rw [numS_fwd (by omega) (by omega) (by omega)] at e1
  injection e1 with a1 b1
  have e2 := c.e2
  rw [b1, numS_fwd (by omega) (by omega) (by omega)] at e2
  injection e2 with a2 b2
  have e3 := c.e3
  rw [b2, numS_fwd (by omega) (by omega) (by omega)] at e3
  injection e3 with a3 b3
  have e4 := c.e4
  rw [b3, vecS_fwd r8] at e4
  injection e4 with a4 b4
  have e5 := c.e5
  rw [b4, txtS_fwd (by omega) (by omega)] at e5
  injection e5 with a5 b5
  have e6 := c.e6
  rw [b5, txtS_fwd (by omega) (by omega)] at e6
  injection e6 with a6 b6
  have e7 := c.e7
  rw [b6, flagS_fwd] at e7
  injection e7 with a7 b7
  have e8 := c.e8
  rw [b7, txtS_fwd (by omega) (by omega)] at e8
  injection e8 with a8 b8
  have e9 := c.e9
  rw [b8, ← List.append_nil (numB d.l.toNat), numS_fwd (by omega) (by omega) (by omega)] at e9
  injection e9 with a9 b9
  exact ⟨Wt.ext' (by rw [a1]; simp only; omega) (by rw [a2]; simp only; omega) (by rw [a3]; simp only; omega) (by rw [a1]; simp only; omega) a4.symm a5.symm a6.symm a8.symm a7.symm (by rw [a9]; simp only; omega), b9⟩
end
def wtZ : Wt := ⟨0, 0, 0, 0, [], [], [], [], false, 0⟩
end Go.Proofs.Ytdhgmifgjaedbaa


/- Walks: DecodeClaims. No condition. -/
namespace Go.Proofs.Ytdhgmifgjaedbaa
set_option linter.unusedVariables false
set_option linter.unusedSimpArgs false
open Go.RowKit Px Wr
theorem Px.OwnC.rv {F : Nat → Prop} {w0 : World} {h0 h : PH} {A : Option Addr} {n c : Nat} {xs : List Value} (o : OwnC F h0 h 1 (.slice A n c) n xs) : Rv w0 h A xs := Rv.own o.own
theorem EE_told {h : PH} {n : Nat} {st : St} {v : Value} (e : EE h n st v) : (st = .ok [] ∧ v = .nilIface) ∨ (st ≠ .ok [] ∧ ∃ be p, v = errV be ∧ h.m be = some ⟨[str wireT, .int .i64 p, codeV 2], 3⟩) := by
  cases st with
  | bad p => obtain ⟨be, h1, h2⟩ := e; exact .inr ⟨by simp, be, _, h1, h2⟩
  | ok t =>
    cases t with
    | nil => exact .inl ⟨rfl, e⟩
    | cons c t => obtain ⟨be, h1, h2⟩ := e; exact .inr ⟨by simp, be, _, h1, h2⟩
theorem vecS_len {n : Nat} {v : List Int} {st st' : St} (h : (v, st') = vecS n st) : v.length ≤ 16 := by
  cases st with
  | bad p => injection h with h _; rw [h]; simp
  | ok t =>
    cases hp : vecP t with
    | none => unfold vecS St.step at h; simp only [hp] at h; injection h with h _; rw [h]; simp
    | some q =>
      obtain ⟨a, u⟩ := q
      unfold vecS St.step at h; simp only [hp] at h; injection h with h _; rw [h]
      exact trim_len (vecP_inv hp).2
end Go.Proofs.Ytdhgmifgjaedbaa


/- Walks: ReadClaims. No condition. -/
namespace Go.Proofs.Ytdhgmifgjaedbaa
set_option linter.unusedVariables false
set_option linter.unusedSimpArgs false
open Go.RowKit Px Wr
theorem IS_put {h : PH} {ib wb : Nat} {s : List UInt8} {st : St} {kk : Bk} (hi : IS h ib s st) (hw : h.m wb = some kk) (hk : kk.lim ≠ 3) (k : Bk) : IS (h.new wb k) ib s st := by
  have hne : ∀ y l, h.m y = some ⟨l, 3⟩ → y ≠ wb := fun y l e e' => by
    rw [e', hw] at e
    injection e with e
    rw [e] at hk
    exact hk rfl
  cases st with
  | ok t => obtain ⟨a, h1, h2, h3⟩ := hi; exact ⟨a, h1, h2, by rw [PH.new_m, if_neg (hne _ _ h3)]; exact h3⟩
  | bad p => obtain ⟨a, be, h1, h2, h3, h4⟩ := hi; exact ⟨a, be, h1, h2, by rw [PH.new_m, if_neg (hne _ _ h3)]; exact h3, by rw [PH.new_m, if_neg (hne _ _ h4)]; exact h4⟩
end Go.Proofs.Ytdhgmifgjaedbaa


/- Walks: DecodeWrite. No condition. -/
namespace Go.Proofs.Ytdhgmifgjaedbaa
set_option linter.unusedVariables false
set_option linter.unusedSimpArgs false
open Go.RowKit Px Wr
theorem solo (w0 : World) (h : PH) (b lim : Nat) (ys rest : List Value) (hb : h.m b = some ⟨ys ++ rest, lim⟩) : ∃ hS : PH, hS.m b = some ⟨ys, lim⟩ ∧ ∀ (h' : PH) (rest' : List Value), h.top ≤ h'.top → h'.m b = some ⟨ys ++ rest', lim⟩ → PH.Sub w0 hS h' := by
  have hlt := h.lt _ _ hb
  refine ⟨⟨h.top, fun x => if x = b then some ⟨ys, lim⟩ else none, fun x k e => by
    by_cases hx : x = b
    · rw [hx]; exact hlt
    · rw [if_neg hx] at e; cases e⟩, by simp, fun h' rest' ht hm w s => ⟨s.below, Nat.le_trans ht s.top, fun x k e => ?_⟩⟩
  simp only at e
  by_cases hx : x = b
  · rw [if_pos hx] at e
    obtain rfl := Option.some.inj e
    subst hx
    obtain ⟨h1, cur, t, lo, hi, hc, g1, g2, g3, g4⟩ := s.sat x _ hm
    simp only at g1 g2 g3 g4
    refine ⟨h1, cur, t, lo, hi, hc, g1, g2, by simp only; simp only [List.length_append] at g3; omega, ?_⟩
    have h5 := congrArg (List.take ys.length) g4
    rw [List.take_take, List.take_left, List.length_append, Nat.min_eq_left (by omega)] at h5
    exact h5
  · rw [if_neg hx] at e; cases e
/-- .. and the vector lies in what is new. -/
def DEWF (w0 : World) (h0 h : PH) (s : List UInt8) (v : Value) : Prop :=
  (∃ c A cap, IsW s c ∧ v = .tuple #[.agg (wtL c A cap).toArray, .nilIface] ∧ c.d.length ≤ cap ∧ Rv w0 h A (ints c.d) ∧ ∀ a, A = some a → h0.top ≤ a.block) ∨ ((∀ c, ¬ IsW s c) ∧ ∃ ev e, v = .tuple #[.agg (wtL wtZ none 0).toArray, ev] ∧ EV h e ev ∧ e.num = 2)
set_option maxRecDepth 20000 in
set_option maxHeartbeats 4000000 in
theorem decWF_any (s : List UInt8) (hs : s.length ≤ 1000000000) (w0 : World) (h : PH) : PCalls Try.prog w0 40 [str s] h fun r h' => DEWF w0 h h' s r ∧ PH.Le h h' := by
  refine PCalls_body Try.func40 (by kernel_rfl) rfl _ Try.ntmps40 (by kernel_rfl) (by kernel_rfl) _ Try.results40 ?_
  simp -dsimp -implicitDefEqProofs (disch := first | omega | assumption | (simp only [Option.isSome_some, Qt0]; done) | (simp only [UInt64.reduceToNat, UInt32.reduceToNat, UInt8.reduceToNat, List.length_cons, List.length_nil, List.length_append, Int.toNat_natCast] <;> omega) | fail) only [Nat.reduceLT, Nat.reduceLeDiff, Nat.reduceEqDiff, ↓reduceIte, Int.reduceLT, Int.reduceLE, Int.reduceToNat, Int.reduceEq, Int.reduceNe, Nat.reduceAdd, UInt8.reduceOfNat, UInt16.reduceOfNat, UInt32.reduceOfNat, UInt64.reduceOfNat, UInt64.reduceToNat, UInt32.reduceToNat, UInt16.reduceToNat, UInt8.reduceToNat, Int.reduceAdd, Int.reduceSub, Int.reduceMul, Nat.reduceMul, Qp0, Qp1, Ql0, Qe0]
  refine fun rb hrb => ?_
  have hle := (PH.Le.refl h).new rb ⟨[.int .i64 0, .int .i64 0, .int .i64 0, .int .i64 0, .slice none 0 0, .string ⟨#[]⟩, .string ⟨#[]⟩, .string ⟨#[]⟩, .bool false, .int .i64 0], 10⟩ hrb
  have hm : (h.new rb ⟨[.int .i64 0, .int .i64 0, .int .i64 0, .int .i64 0, .slice none 0 0, .string ⟨#[]⟩, .string ⟨#[]⟩, .string ⟨#[]⟩, .bool false, .int .i64 0], 10⟩).m rb = some ⟨[.int .i64 0, .int .i64 0, .int .i64 0, .int .i64 0, .slice none 0 0, .string ⟨#[]⟩, .string ⟨#[]⟩, .string ⟨#[]⟩, .bool false, .int .i64 0], 10⟩ := by rw [PH.new_m, if_pos rfl]
  simp -dsimp -implicitDefEqProofs (disch := first | omega | assumption | (simp only [Option.isSome_some, Qt0]; done) | (simp only [UInt64.reduceToNat, UInt32.reduceToNat, UInt8.reduceToNat, List.length_cons, List.length_nil, List.length_append, Int.toNat_natCast] <;> omega) | fail) only [Nat.reduceLT, Nat.reduceLeDiff, Nat.reduceEqDiff, ↓reduceIte, Int.reduceLT, Int.reduceLE, Int.reduceToNat, Int.reduceEq, Int.reduceNe, Nat.reduceAdd, UInt8.reduceOfNat, UInt16.reduceOfNat, UInt32.reduceOfNat, UInt64.reduceOfNat, UInt64.reduceToNat, UInt32.reduceToNat, UInt16.reduceToNat, UInt8.reduceToNat, Int.reduceAdd, Int.reduceSub, Int.reduceMul, Nat.reduceMul, Qp0, Qp1, Ql0, Qe0]
  generalize h.new rb ⟨[.int .i64 0, .int .i64 0, .int .i64 0, .int .i64 0, .slice none 0 0, .string ⟨#[]⟩, .string ⟨#[]⟩, .string ⟨#[]⟩, .bool false, .int .i64 0], 10⟩ = h1 at *
  refine (read_any w0 h1 s).mono ?_
  rintro v q2 ⟨ib, rfl, hib, hl2, hi⟩
  have hibl := ib_lt hi
  have hne : rb ≠ ib := by have := h1.lt _ _ hm; omega
  have hib0 : h.top ≤ ib := Nat.le_trans hle.top hib
  have hm := hl2.m _ _ hm
  have hle2 := hle.trans hl2
  have hcc := Chg.refl (· = ib) q2
  simp -dsimp -implicitDefEqProofs (disch := first | omega | assumption | (simp only [Option.isSome_some, Qt0]; done) | (simp only [UInt64.reduceToNat, UInt32.reduceToNat, UInt8.reduceToNat, List.length_cons, List.length_nil, List.length_append, Int.toNat_natCast] <;> omega) | fail) only [Nat.reduceLT, Nat.reduceLeDiff, Nat.reduceEqDiff, ↓reduceIte, Int.reduceLT, Int.reduceLE, Int.reduceToNat, Int.reduceEq, Int.reduceNe, Nat.reduceAdd, UInt8.reduceOfNat, UInt16.reduceOfNat, UInt32.reduceOfNat, UInt64.reduceOfNat, UInt64.reduceToNat, UInt32.reduceToNat, UInt16.reduceToNat, UInt8.reduceToNat, Int.reduceAdd, Int.reduceSub, Int.reduceMul, Nat.reduceMul, Qp0, Qp1, Ql0, Qe0]
  refine (inum_any w0 _ ib s hs 16 _ hi).mono ?_
  rintro v q3 ⟨rfl, hi, hc⟩
  obtain ⟨⟨x1, s1⟩, e1⟩ : ∃ p, p = numS 16 s.length (.ok s) := ⟨_, rfl⟩
  rw [← e1] at hi
  rw [← e1]
  simp only at hi
  have hm := hc.m _ _ hm hne
  have hcc := hcc.trans hc
  have hibl := Nat.lt_of_lt_of_le hibl hc.top
  simp -dsimp -implicitDefEqProofs (disch := first | omega | assumption | (simp only [Option.isSome_some, Qt0]; done) | (simp only [UInt64.reduceToNat, UInt32.reduceToNat, UInt8.reduceToNat, List.length_cons, List.length_nil, List.length_append, Int.toNat_natCast] <;> omega) | fail) only [Nat.reduceLT, Nat.reduceLeDiff, Nat.reduceEqDiff, ↓reduceIte, Int.reduceLT, Int.reduceLE, Int.reduceToNat, Int.reduceEq, Int.reduceNe, Nat.reduceAdd, UInt8.reduceOfNat, UInt16.reduceOfNat, UInt32.reduceOfNat, UInt64.reduceOfNat, UInt64.reduceToNat, UInt32.reduceToNat, UInt16.reduceToNat, UInt8.reduceToNat, Int.reduceAdd, Int.reduceSub, Int.reduceMul, Nat.reduceMul, Qp0, Qp1, Ql0, Qe0, rd_M, rdM_some, hm, List.set_cons_zero, List.set_cons_succ, List.take_zero, List.drop_succ_cons, List.drop_zero, List.drop_nil, List.nil_append, List.append_nil, List.take_succ_cons, ite_true, PH.new_new]
  refine (inum_any w0 _ ib s hs 1099511627776 _ hi).mono ?_
  rintro v q4 ⟨rfl, hi, hc⟩
  obtain ⟨⟨x2, s2⟩, e2⟩ : ∃ p, p = numS 1099511627776 s.length s1 := ⟨_, rfl⟩
  rw [← e2] at hi
  rw [← e2]
  simp only at hi
  have hm := hc.m _ _ hm hne
  have hcc := hcc.trans hc
  have hibl := Nat.lt_of_lt_of_le hibl hc.top
  simp -dsimp -implicitDefEqProofs (disch := first | omega | assumption | (simp only [Option.isSome_some, Qt0]; done) | (simp only [UInt64.reduceToNat, UInt32.reduceToNat, UInt8.reduceToNat, List.length_cons, List.length_nil, List.length_append, Int.toNat_natCast] <;> omega) | fail) only [Nat.reduceLT, Nat.reduceLeDiff, Nat.reduceEqDiff, ↓reduceIte, Int.reduceLT, Int.reduceLE, Int.reduceToNat, Int.reduceEq, Int.reduceNe, Nat.reduceAdd, UInt8.reduceOfNat, UInt16.reduceOfNat, UInt32.reduceOfNat, UInt64.reduceOfNat, UInt64.reduceToNat, UInt32.reduceToNat, UInt16.reduceToNat, UInt8.reduceToNat, Int.reduceAdd, Int.reduceSub, Int.reduceMul, Nat.reduceMul, Qp0, Qp1, Ql0, Qe0, rd_M, rdM_some, hm, List.set_cons_zero, List.set_cons_succ, List.take_zero, List.drop_succ_cons, List.drop_zero, List.drop_nil, List.nil_append, List.append_nil, List.take_succ_cons, ite_true, PH.new_new]
  refine fun wb hwb => ?_
  have hlw := (PH.Le.refl q4).new wb ⟨[.int .i64 x1, .int .i64 x2, .int .i64 0, .int .i64 0, .slice none 0 0, .string ⟨#[]⟩, .string ⟨#[]⟩, .string ⟨#[]⟩, .bool false, .int .i64 0], 10⟩ hwb
  have hw : (q4.new wb ⟨[.int .i64 x1, .int .i64 x2, .int .i64 0, .int .i64 0, .slice none 0 0, .string ⟨#[]⟩, .string ⟨#[]⟩, .string ⟨#[]⟩, .bool false, .int .i64 0], 10⟩).m wb = some ⟨[.int .i64 x1, .int .i64 x2, .int .i64 0, .int .i64 0, .slice none 0 0, .string ⟨#[]⟩, .string ⟨#[]⟩, .string ⟨#[]⟩, .bool false, .int .i64 0], 10⟩ := by rw [PH.new_m, if_pos rfl]
  have ha := allOne_of [.int .i64 x1, .int .i64 x2, .int .i64 0, .int .i64 0, .slice none 0 0, .string ⟨#[]⟩, .string ⟨#[]⟩, .string ⟨#[]⟩, .bool false, .int .i64 0] rfl
  have hrw : rb ≠ wb := by have := q4.lt _ _ hm; omega
  have hnw : wb ≠ ib := by omega
  have hwb0 : h.top ≤ wb := Nat.le_trans (Nat.le_trans hle2.top hcc.top) hwb
  have hcc := (hcc.mono (G := fun x => x = ib ∨ x = rb ∨ x = wb) fun x _ e => .inl e).trans (.le hlw)
  have hm := hlw.m _ _ hm
  have hi := hi.more hlw
  have hibl := Nat.lt_of_lt_of_le hibl hlw.top
  simp -dsimp -implicitDefEqProofs (disch := first | omega | assumption | (simp only [Option.isSome_some, Qt0]; done) | (simp only [UInt64.reduceToNat, UInt32.reduceToNat, UInt8.reduceToNat, List.length_cons, List.length_nil, List.length_append, Int.toNat_natCast] <;> omega) | fail) only [Nat.reduceLT, Nat.reduceLeDiff, Nat.reduceEqDiff, ↓reduceIte, Int.reduceLT, Int.reduceLE, Int.reduceToNat, Int.reduceEq, Int.reduceNe, Nat.reduceAdd, UInt8.reduceOfNat, UInt16.reduceOfNat, UInt32.reduceOfNat, UInt64.reduceOfNat, UInt64.reduceToNat, UInt32.reduceToNat, UInt16.reduceToNat, UInt8.reduceToNat, Int.reduceAdd, Int.reduceSub, Int.reduceMul, Nat.reduceMul, Qp0, Qp1, Ql0, Qe0, List.set_cons_zero, List.set_cons_succ, List.take_zero, List.drop_succ_cons, List.drop_zero, List.drop_nil, List.nil_append, List.append_nil, List.take_succ_cons, ite_true, PH.new_new]
  generalize q4.new wb ⟨[.int .i64 x1, .int .i64 x2, .int .i64 0, .int .i64 0, .slice none 0 0, .string ⟨#[]⟩, .string ⟨#[]⟩, .string ⟨#[]⟩, .bool false, .int .i64 0], 10⟩ = q5 at *
  obtain ⟨hS, hSm, hSs⟩ := solo w0 q5 wb 10 [.int .i64 x1, .int .i64 x2] _ hw
  refine PW_plan [0, 2, 3, 1, 4, 5, 6] hS (by kernel_rfl) (by decide +kernel) (by kernel_rfl) (by kernel_rfl) (by kernel_rfl) (fun c f h hq => by simp only [thenC_panic, thenK_panic, inBlk_panic, thenN_panic, vcRet_panic] at hq) (hSs _ _ (Nat.le_refl _) hw) ?_
  have hSt := q5.top
  have htop0 := Nat.le_refl q5.top
  have hsb : ∀ (t : TypeId) (ps : Array (Nat × Operand)), silentB Try.prog (.build t ps) = true := fun _ _ => rfl
  simp -dsimp -implicitDefEqProofs (disch := first | omega | assumption | (simp only [Option.isSome_some, Qt0]; done) | (simp only [UInt64.reduceToNat, UInt32.reduceToNat, UInt8.reduceToNat, List.length_cons, List.length_nil, List.length_append, Int.toNat_natCast] <;> omega) | fail) only [Nat.reduceLT, Nat.reduceLeDiff, Nat.reduceEqDiff, ↓reduceIte, Int.reduceLT, Int.reduceLE, Int.reduceToNat, Int.reduceEq, Int.reduceNe, Nat.reduceAdd, UInt8.reduceOfNat, UInt16.reduceOfNat, UInt32.reduceOfNat, UInt64.reduceOfNat, UInt64.reduceToNat, UInt32.reduceToNat, UInt16.reduceToNat, UInt8.reduceToNat, Int.reduceAdd, Int.reduceSub, Int.reduceMul, Nat.reduceMul, Qp0, Qp1, Ql0, Qe0, rd_M, rdM_some, hSm, hsb]
  refine (inum_any w0 _ ib s hs 1099511627776 _ hi).mono ?_
  rintro v q6 ⟨rfl, hi, hc⟩
  obtain ⟨⟨x3, s3⟩, e3⟩ : ∃ p, p = numS 1099511627776 s.length s2 := ⟨_, rfl⟩
  rw [← e3] at hi
  rw [← e3]
  simp only at hi
  have hm := hc.m _ _ hm hne
  have hw := hc.m _ _ hw hnw
  have hcc := hcc.trans (hc.mono (G := fun x => x = ib ∨ x = rb ∨ x = wb) fun x _ e => .inl e)
  have hibl := Nat.lt_of_lt_of_le hibl hc.top
  have htop0 := Nat.le_trans htop0 hc.top
  refine ⟨hSs _ _ htop0 hw, ?_⟩
  have ha3 := allOne_of [.int .i64 x3, .int .i64 x1] rfl
  simp -dsimp -implicitDefEqProofs (disch := first | omega | assumption | (simp only [Option.isSome_some, Qt0]; done) | (simp only [UInt64.reduceToNat, UInt32.reduceToNat, UInt8.reduceToNat, List.length_cons, List.length_nil, List.length_append, Int.toNat_natCast] <;> omega) | fail) only [Nat.reduceLT, Nat.reduceLeDiff, Nat.reduceEqDiff, ↓reduceIte, Int.reduceLT, Int.reduceLE, Int.reduceToNat, Int.reduceEq, Int.reduceNe, Nat.reduceAdd, UInt8.reduceOfNat, UInt16.reduceOfNat, UInt32.reduceOfNat, UInt64.reduceOfNat, UInt64.reduceToNat, UInt32.reduceToNat, UInt16.reduceToNat, UInt8.reduceToNat, Int.reduceAdd, Int.reduceSub, Int.reduceMul, Nat.reduceMul, Qp0, Qp1, Ql0, Qe0, rd_M, rdM_some, hSm, hw, hsb, List.set_cons_zero, List.set_cons_succ, List.take_zero, List.drop_succ_cons, List.drop_zero, List.drop_nil, List.nil_append, List.append_nil, List.take_succ_cons, ite_true, PH.new_new]
  refine ⟨hSs _ [.int .i64 x3, .int .i64 x1, .slice none 0 0, .string ⟨#[]⟩, .string ⟨#[]⟩, .string ⟨#[]⟩, .bool false, .int .i64 0] (by simp only [PH.new_top]; omega) (by rw [PH.new_m, if_pos rfl]; rfl), ?_⟩
  have hcc := hcc.put (F := fun x => x = ib ∨ x = rb ∨ x = wb) (b := wb) (.inr (.inr rfl)) ⟨[.int .i64 x1, .int .i64 x2, .int .i64 x3, .int .i64 x1, .slice none 0 0, .string ⟨#[]⟩, .string ⟨#[]⟩, .string ⟨#[]⟩, .bool false, .int .i64 0], 10⟩
  have hi := IS_put hi hw (show (10 : Nat) ≠ 3 by omega) ⟨[.int .i64 x1, .int .i64 x2, .int .i64 x3, .int .i64 x1, .slice none 0 0, .string ⟨#[]⟩, .string ⟨#[]⟩, .string ⟨#[]⟩, .bool false, .int .i64 0], 10⟩
  have hm : (q6.new wb ⟨[.int .i64 x1, .int .i64 x2, .int .i64 x3, .int .i64 x1, .slice none 0 0, .string ⟨#[]⟩, .string ⟨#[]⟩, .string ⟨#[]⟩, .bool false, .int .i64 0], 10⟩).m rb = some ⟨[.int .i64 0, .int .i64 0, .int .i64 0, .int .i64 0, .slice none 0 0, .string ⟨#[]⟩, .string ⟨#[]⟩, .string ⟨#[]⟩, .bool false, .int .i64 0], 10⟩ := by rw [PH.new_m, if_neg hrw]; exact hm
  have hw : (q6.new wb ⟨[.int .i64 x1, .int .i64 x2, .int .i64 x3, .int .i64 x1, .slice none 0 0, .string ⟨#[]⟩, .string ⟨#[]⟩, .string ⟨#[]⟩, .bool false, .int .i64 0], 10⟩).m wb = some ⟨[.int .i64 x1, .int .i64 x2, .int .i64 x3, .int .i64 x1, .slice none 0 0, .string ⟨#[]⟩, .string ⟨#[]⟩, .string ⟨#[]⟩, .bool false, .int .i64 0], 10⟩ := by rw [PH.new_m, if_pos rfl]
  have hibl : ib < (q6.new wb ⟨[.int .i64 x1, .int .i64 x2, .int .i64 x3, .int .i64 x1, .slice none 0 0, .string ⟨#[]⟩, .string ⟨#[]⟩, .string ⟨#[]⟩, .bool false, .int .i64 0], 10⟩).top := by simp only [PH.new_top]; omega
  generalize q6.new wb ⟨[.int .i64 x1, .int .i64 x2, .int .i64 x3, .int .i64 x1, .slice none 0 0, .string ⟨#[]⟩, .string ⟨#[]⟩, .string ⟨#[]⟩, .bool false, .int .i64 0], 10⟩ = q7 at *
  simp -dsimp -implicitDefEqProofs (disch := first | omega | assumption | (simp only [Option.isSome_some, Qt0]; done) | (simp only [UInt64.reduceToNat, UInt32.reduceToNat, UInt8.reduceToNat, List.length_cons, List.length_nil, List.length_append, Int.toNat_natCast] <;> omega) | fail) only [Nat.reduceLT, Nat.reduceLeDiff, Nat.reduceEqDiff, ↓reduceIte, Int.reduceLT, Int.reduceLE, Int.reduceToNat, Int.reduceEq, Int.reduceNe, Nat.reduceAdd, UInt8.reduceOfNat, UInt16.reduceOfNat, UInt32.reduceOfNat, UInt64.reduceOfNat, UInt64.reduceToNat, UInt32.reduceToNat, UInt16.reduceToNat, UInt8.reduceToNat, Int.reduceAdd, Int.reduceSub, Int.reduceMul, Nat.reduceMul, Qp0, Qp1, Ql0, Qe0]
  refine (ivec_any w0 _ ib s hs _ hi).mono ?_
  rintro v q8 ⟨A, cap, rfl, how, hi⟩
  obtain ⟨⟨x4, s4⟩, e4⟩ : ∃ p, p = vecS s.length s3 := ⟨_, rfl⟩
  rw [← e4] at hi how
  rw [← e4]
  simp only at hi how
  have hc := how.chg
  obtain ⟨_, _, hA, hcap⟩ := how.own.len
  injection hA with hA1 hA2 hA3
  subst hA1; subst hA3
  have hnA : ∀ a, A = some a → a.block ≠ ib ∧ a.block ≠ rb ∧ a.block ≠ wb ∧ h.top ≤ a.block := fun a ea => by
    have hrb0 : h.top ≤ rb := hrb
    have h5 := how.new _ (how.own.A a ea)
    have h6 := hibl
    have h7 := q7.lt _ _ hm
    have h8 := q7.lt _ _ hw
    refine ⟨?_, ?_, ?_, ?_⟩ <;> omega
  have hrv : Rv w0 q8 A (ints x4) := how.rv
  have hm := hc.m _ _ hm hne
  have hw := hc.m _ _ hw hnw
  have hcc := hcc.trans (hc.mono (G := fun x => x = ib ∨ x = rb ∨ x = wb) fun x _ e => .inl e)
  have hibl := Nat.lt_of_lt_of_le hibl hc.top
  simp -dsimp -implicitDefEqProofs (disch := first | omega | assumption | (simp only [Option.isSome_some, Qt0]; done) | (simp only [UInt64.reduceToNat, UInt32.reduceToNat, UInt8.reduceToNat, List.length_cons, List.length_nil, List.length_append, Int.toNat_natCast] <;> omega) | fail) only [Nat.reduceLT, Nat.reduceLeDiff, Nat.reduceEqDiff, ↓reduceIte, Int.reduceLT, Int.reduceLE, Int.reduceToNat, Int.reduceEq, Int.reduceNe, Nat.reduceAdd, UInt8.reduceOfNat, UInt16.reduceOfNat, UInt32.reduceOfNat, UInt64.reduceOfNat, UInt64.reduceToNat, UInt32.reduceToNat, UInt16.reduceToNat, UInt8.reduceToNat, Int.reduceAdd, Int.reduceSub, Int.reduceMul, Nat.reduceMul, Qp0, Qp1, Ql0, Qe0, rd_M, rdM_some, hm, hw, List.set_cons_zero, List.set_cons_succ, List.take_zero, List.drop_succ_cons, List.drop_zero, List.drop_nil, List.nil_append, List.append_nil, List.take_succ_cons, ite_true, PH.new_new]
  have hcc := hcc.put (F := fun x => x = ib ∨ x = rb ∨ x = wb) (b := wb) (.inr (.inr rfl)) ⟨[.int .i64 x1, .int .i64 x2, .int .i64 x3, .int .i64 x1, .slice A x4.length cap, .string ⟨#[]⟩, .string ⟨#[]⟩, .string ⟨#[]⟩, .bool false, .int .i64 0], 10⟩
  have hi := IS_put hi hw (show (10 : Nat) ≠ 3 by omega) ⟨[.int .i64 x1, .int .i64 x2, .int .i64 x3, .int .i64 x1, .slice A x4.length cap, .string ⟨#[]⟩, .string ⟨#[]⟩, .string ⟨#[]⟩, .bool false, .int .i64 0], 10⟩
  have hrv := hrv.chg (F := (· = wb)) ((Chg.refl (· = wb) q8).one ⟨[.int .i64 x1, .int .i64 x2, .int .i64 x3, .int .i64 x1, .slice A x4.length cap, .string ⟨#[]⟩, .string ⟨#[]⟩, .string ⟨#[]⟩, .bool false, .int .i64 0], 10⟩) (fun a ea e => (hnA a ea).2.2.1 e)
  have hm : (q8.new wb ⟨[.int .i64 x1, .int .i64 x2, .int .i64 x3, .int .i64 x1, .slice A x4.length cap, .string ⟨#[]⟩, .string ⟨#[]⟩, .string ⟨#[]⟩, .bool false, .int .i64 0], 10⟩).m rb = some ⟨[.int .i64 0, .int .i64 0, .int .i64 0, .int .i64 0, .slice none 0 0, .string ⟨#[]⟩, .string ⟨#[]⟩, .string ⟨#[]⟩, .bool false, .int .i64 0], 10⟩ := by rw [PH.new_m, if_neg hrw]; exact hm
  have hw : (q8.new wb ⟨[.int .i64 x1, .int .i64 x2, .int .i64 x3, .int .i64 x1, .slice A x4.length cap, .string ⟨#[]⟩, .string ⟨#[]⟩, .string ⟨#[]⟩, .bool false, .int .i64 0], 10⟩).m wb = some ⟨[.int .i64 x1, .int .i64 x2, .int .i64 x3, .int .i64 x1, .slice A x4.length cap, .string ⟨#[]⟩, .string ⟨#[]⟩, .string ⟨#[]⟩, .bool false, .int .i64 0], 10⟩ := by rw [PH.new_m, if_pos rfl]
  have hibl : ib < (q8.new wb ⟨[.int .i64 x1, .int .i64 x2, .int .i64 x3, .int .i64 x1, .slice A x4.length cap, .string ⟨#[]⟩, .string ⟨#[]⟩, .string ⟨#[]⟩, .bool false, .int .i64 0], 10⟩).top := by simp only [PH.new_top]; omega
  generalize q8.new wb ⟨[.int .i64 x1, .int .i64 x2, .int .i64 x3, .int .i64 x1, .slice A x4.length cap, .string ⟨#[]⟩, .string ⟨#[]⟩, .string ⟨#[]⟩, .bool false, .int .i64 0], 10⟩ = q9 at *
  refine (itext_any w0 _ ib s hs 64 _ hi).mono ?_
  rintro v q10 ⟨rfl, hi, hc⟩
  obtain ⟨⟨x5, s5⟩, e5⟩ : ∃ p, p = txtS 64 s.length s4 := ⟨_, rfl⟩
  rw [← e5] at hi
  rw [← e5]
  simp only at hi
  have hrv := hrv.chg hc (fun a ea e => (hnA a ea).1 e)
  have hm := hc.m _ _ hm hne
  have hw := hc.m _ _ hw hnw
  have hcc := hcc.trans (hc.mono (G := fun x => x = ib ∨ x = rb ∨ x = wb) fun x _ e => .inl e)
  have hibl := Nat.lt_of_lt_of_le hibl hc.top
  simp -dsimp -implicitDefEqProofs (disch := first | omega | assumption | (simp only [Option.isSome_some, Qt0]; done) | (simp only [UInt64.reduceToNat, UInt32.reduceToNat, UInt8.reduceToNat, List.length_cons, List.length_nil, List.length_append, Int.toNat_natCast] <;> omega) | fail) only [Nat.reduceLT, Nat.reduceLeDiff, Nat.reduceEqDiff, ↓reduceIte, Int.reduceLT, Int.reduceLE, Int.reduceToNat, Int.reduceEq, Int.reduceNe, Nat.reduceAdd, UInt8.reduceOfNat, UInt16.reduceOfNat, UInt32.reduceOfNat, UInt64.reduceOfNat, UInt64.reduceToNat, UInt32.reduceToNat, UInt16.reduceToNat, UInt8.reduceToNat, Int.reduceAdd, Int.reduceSub, Int.reduceMul, Nat.reduceMul, Qp0, Qp1, Ql0, Qe0, rd_M, rdM_some, hm, hw, List.set_cons_zero, List.set_cons_succ, List.take_zero, List.drop_succ_cons, List.drop_zero, List.drop_nil, List.nil_append, List.append_nil, List.take_succ_cons, ite_true, PH.new_new]
  refine (itext_any w0 _ ib s hs 32 _ hi).mono ?_
  rintro v q11 ⟨rfl, hi, hc⟩
  obtain ⟨⟨x6, s6⟩, e6⟩ : ∃ p, p = txtS 32 s.length s5 := ⟨_, rfl⟩
  rw [← e6] at hi
  rw [← e6]
  simp only at hi
  have hrv := hrv.chg hc (fun a ea e => (hnA a ea).1 e)
  have hm := hc.m _ _ hm hne
  have hw := hc.m _ _ hw hnw
  have hcc := hcc.trans (hc.mono (G := fun x => x = ib ∨ x = rb ∨ x = wb) fun x _ e => .inl e)
  have hibl := Nat.lt_of_lt_of_le hibl hc.top
  simp -dsimp -implicitDefEqProofs (disch := first | omega | assumption | (simp only [Option.isSome_some, Qt0]; done) | (simp only [UInt64.reduceToNat, UInt32.reduceToNat, UInt8.reduceToNat, List.length_cons, List.length_nil, List.length_append, Int.toNat_natCast] <;> omega) | fail) only [Nat.reduceLT, Nat.reduceLeDiff, Nat.reduceEqDiff, ↓reduceIte, Int.reduceLT, Int.reduceLE, Int.reduceToNat, Int.reduceEq, Int.reduceNe, Nat.reduceAdd, UInt8.reduceOfNat, UInt16.reduceOfNat, UInt32.reduceOfNat, UInt64.reduceOfNat, UInt64.reduceToNat, UInt32.reduceToNat, UInt16.reduceToNat, UInt8.reduceToNat, Int.reduceAdd, Int.reduceSub, Int.reduceMul, Nat.reduceMul, Qp0, Qp1, Ql0, Qe0, rd_M, rdM_some, hm, hw, List.set_cons_zero, List.set_cons_succ, List.take_zero, List.drop_succ_cons, List.drop_zero, List.drop_nil, List.nil_append, List.append_nil, List.take_succ_cons, ite_true, PH.new_new]
  have hcc := hcc.put (F := fun x => x = ib ∨ x = rb ∨ x = wb) (b := wb) (.inr (.inr rfl)) ⟨[.int .i64 x1, .int .i64 x2, .int .i64 x3, .int .i64 x1, .slice A x4.length cap, str x5, str x6, .string ⟨#[]⟩, .bool false, .int .i64 0], 10⟩
  have hi := IS_put hi hw (show (10 : Nat) ≠ 3 by omega) ⟨[.int .i64 x1, .int .i64 x2, .int .i64 x3, .int .i64 x1, .slice A x4.length cap, str x5, str x6, .string ⟨#[]⟩, .bool false, .int .i64 0], 10⟩
  have hrv := hrv.chg (F := (· = wb)) ((Chg.refl (· = wb) q11).one ⟨[.int .i64 x1, .int .i64 x2, .int .i64 x3, .int .i64 x1, .slice A x4.length cap, str x5, str x6, .string ⟨#[]⟩, .bool false, .int .i64 0], 10⟩) (fun a ea e => (hnA a ea).2.2.1 e)
  have hm : (q11.new wb ⟨[.int .i64 x1, .int .i64 x2, .int .i64 x3, .int .i64 x1, .slice A x4.length cap, str x5, str x6, .string ⟨#[]⟩, .bool false, .int .i64 0], 10⟩).m rb = some ⟨[.int .i64 0, .int .i64 0, .int .i64 0, .int .i64 0, .slice none 0 0, .string ⟨#[]⟩, .string ⟨#[]⟩, .string ⟨#[]⟩, .bool false, .int .i64 0], 10⟩ := by rw [PH.new_m, if_neg hrw]; exact hm
  have hw : (q11.new wb ⟨[.int .i64 x1, .int .i64 x2, .int .i64 x3, .int .i64 x1, .slice A x4.length cap, str x5, str x6, .string ⟨#[]⟩, .bool false, .int .i64 0], 10⟩).m wb = some ⟨[.int .i64 x1, .int .i64 x2, .int .i64 x3, .int .i64 x1, .slice A x4.length cap, str x5, str x6, .string ⟨#[]⟩, .bool false, .int .i64 0], 10⟩ := by rw [PH.new_m, if_pos rfl]
  have hibl : ib < (q11.new wb ⟨[.int .i64 x1, .int .i64 x2, .int .i64 x3, .int .i64 x1, .slice A x4.length cap, str x5, str x6, .string ⟨#[]⟩, .bool false, .int .i64 0], 10⟩).top := by simp only [PH.new_top]; omega
  generalize q11.new wb ⟨[.int .i64 x1, .int .i64 x2, .int .i64 x3, .int .i64 x1, .slice A x4.length cap, str x5, str x6, .string ⟨#[]⟩, .bool false, .int .i64 0], 10⟩ = q12 at *
  refine (iflag_any w0 _ ib s hs _ hi).mono ?_
  rintro v q13 ⟨rfl, hi, hc⟩
  obtain ⟨⟨x7, s7⟩, e7⟩ : ∃ p, p = flagS s.length s6 := ⟨_, rfl⟩
  rw [← e7] at hi
  rw [← e7]
  simp only at hi
  have hrv := hrv.chg hc (fun a ea e => (hnA a ea).1 e)
  have hm := hc.m _ _ hm hne
  have hw := hc.m _ _ hw hnw
  have hcc := hcc.trans (hc.mono (G := fun x => x = ib ∨ x = rb ∨ x = wb) fun x _ e => .inl e)
  have hibl := Nat.lt_of_lt_of_le hibl hc.top
  simp -dsimp -implicitDefEqProofs (disch := first | omega | assumption | (simp only [Option.isSome_some, Qt0]; done) | (simp only [UInt64.reduceToNat, UInt32.reduceToNat, UInt8.reduceToNat, List.length_cons, List.length_nil, List.length_append, Int.toNat_natCast] <;> omega) | fail) only [Nat.reduceLT, Nat.reduceLeDiff, Nat.reduceEqDiff, ↓reduceIte, Int.reduceLT, Int.reduceLE, Int.reduceToNat, Int.reduceEq, Int.reduceNe, Nat.reduceAdd, UInt8.reduceOfNat, UInt16.reduceOfNat, UInt32.reduceOfNat, UInt64.reduceOfNat, UInt64.reduceToNat, UInt32.reduceToNat, UInt16.reduceToNat, UInt8.reduceToNat, Int.reduceAdd, Int.reduceSub, Int.reduceMul, Nat.reduceMul, Qp0, Qp1, Ql0, Qe0, rd_M, rdM_some, hm, hw, List.set_cons_zero, List.set_cons_succ, List.take_zero, List.drop_succ_cons, List.drop_zero, List.drop_nil, List.nil_append, List.append_nil, List.take_succ_cons, ite_true, PH.new_new]
  refine (itext_any w0 _ ib s hs 128 _ hi).mono ?_
  rintro v q14 ⟨rfl, hi, hc⟩
  obtain ⟨⟨x8, s8⟩, e8⟩ : ∃ p, p = txtS 128 s.length s7 := ⟨_, rfl⟩
  rw [← e8] at hi
  rw [← e8]
  simp only at hi
  have hrv := hrv.chg hc (fun a ea e => (hnA a ea).1 e)
  have hm := hc.m _ _ hm hne
  have hw := hc.m _ _ hw hnw
  have hcc := hcc.trans (hc.mono (G := fun x => x = ib ∨ x = rb ∨ x = wb) fun x _ e => .inl e)
  have hibl := Nat.lt_of_lt_of_le hibl hc.top
  simp -dsimp -implicitDefEqProofs (disch := first | omega | assumption | (simp only [Option.isSome_some, Qt0]; done) | (simp only [UInt64.reduceToNat, UInt32.reduceToNat, UInt8.reduceToNat, List.length_cons, List.length_nil, List.length_append, Int.toNat_natCast] <;> omega) | fail) only [Nat.reduceLT, Nat.reduceLeDiff, Nat.reduceEqDiff, ↓reduceIte, Int.reduceLT, Int.reduceLE, Int.reduceToNat, Int.reduceEq, Int.reduceNe, Nat.reduceAdd, UInt8.reduceOfNat, UInt16.reduceOfNat, UInt32.reduceOfNat, UInt64.reduceOfNat, UInt64.reduceToNat, UInt32.reduceToNat, UInt16.reduceToNat, UInt8.reduceToNat, Int.reduceAdd, Int.reduceSub, Int.reduceMul, Nat.reduceMul, Qp0, Qp1, Ql0, Qe0, rd_M, rdM_some, hm, hw, List.set_cons_zero, List.set_cons_succ, List.take_zero, List.drop_succ_cons, List.drop_zero, List.drop_nil, List.nil_append, List.append_nil, List.take_succ_cons, ite_true, PH.new_new]
  have hcc := hcc.put (F := fun x => x = ib ∨ x = rb ∨ x = wb) (b := wb) (.inr (.inr rfl)) ⟨[.int .i64 x1, .int .i64 x2, .int .i64 x3, .int .i64 x1, .slice A x4.length cap, str x5, str x6, str x8, .bool x7, .int .i64 0], 10⟩
  have hi := IS_put hi hw (show (10 : Nat) ≠ 3 by omega) ⟨[.int .i64 x1, .int .i64 x2, .int .i64 x3, .int .i64 x1, .slice A x4.length cap, str x5, str x6, str x8, .bool x7, .int .i64 0], 10⟩
  have hrv := hrv.chg (F := (· = wb)) ((Chg.refl (· = wb) q14).one ⟨[.int .i64 x1, .int .i64 x2, .int .i64 x3, .int .i64 x1, .slice A x4.length cap, str x5, str x6, str x8, .bool x7, .int .i64 0], 10⟩) (fun a ea e => (hnA a ea).2.2.1 e)
  have hm : (q14.new wb ⟨[.int .i64 x1, .int .i64 x2, .int .i64 x3, .int .i64 x1, .slice A x4.length cap, str x5, str x6, str x8, .bool x7, .int .i64 0], 10⟩).m rb = some ⟨[.int .i64 0, .int .i64 0, .int .i64 0, .int .i64 0, .slice none 0 0, .string ⟨#[]⟩, .string ⟨#[]⟩, .string ⟨#[]⟩, .bool false, .int .i64 0], 10⟩ := by rw [PH.new_m, if_neg hrw]; exact hm
  have hw : (q14.new wb ⟨[.int .i64 x1, .int .i64 x2, .int .i64 x3, .int .i64 x1, .slice A x4.length cap, str x5, str x6, str x8, .bool x7, .int .i64 0], 10⟩).m wb = some ⟨[.int .i64 x1, .int .i64 x2, .int .i64 x3, .int .i64 x1, .slice A x4.length cap, str x5, str x6, str x8, .bool x7, .int .i64 0], 10⟩ := by rw [PH.new_m, if_pos rfl]
  have hibl : ib < (q14.new wb ⟨[.int .i64 x1, .int .i64 x2, .int .i64 x3, .int .i64 x1, .slice A x4.length cap, str x5, str x6, str x8, .bool x7, .int .i64 0], 10⟩).top := by simp only [PH.new_top]; omega
  generalize q14.new wb ⟨[.int .i64 x1, .int .i64 x2, .int .i64 x3, .int .i64 x1, .slice A x4.length cap, str x5, str x6, str x8, .bool x7, .int .i64 0], 10⟩ = q15 at *
  refine (inum_any w0 _ ib s hs 1099511627776 _ hi).mono ?_
  rintro v q16 ⟨rfl, hi, hc⟩
  obtain ⟨⟨x9, s9⟩, e9⟩ : ∃ p, p = numS 1099511627776 s.length s8 := ⟨_, rfl⟩
  rw [← e9] at hi
  rw [← e9]
  simp only at hi
  have hrv := hrv.chg hc (fun a ea e => (hnA a ea).1 e)
  have hm := hc.m _ _ hm hne
  have hw := hc.m _ _ hw hnw
  have hcc := hcc.trans (hc.mono (G := fun x => x = ib ∨ x = rb ∨ x = wb) fun x _ e => .inl e)
  have hibl := Nat.lt_of_lt_of_le hibl hc.top
  simp -dsimp -implicitDefEqProofs (disch := first | omega | assumption | (simp only [Option.isSome_some, Qt0]; done) | (simp only [UInt64.reduceToNat, UInt32.reduceToNat, UInt8.reduceToNat, List.length_cons, List.length_nil, List.length_append, Int.toNat_natCast] <;> omega) | fail) only [Nat.reduceLT, Nat.reduceLeDiff, Nat.reduceEqDiff, ↓reduceIte, Int.reduceLT, Int.reduceLE, Int.reduceToNat, Int.reduceEq, Int.reduceNe, Nat.reduceAdd, UInt8.reduceOfNat, UInt16.reduceOfNat, UInt32.reduceOfNat, UInt64.reduceOfNat, UInt64.reduceToNat, UInt32.reduceToNat, UInt16.reduceToNat, UInt8.reduceToNat, Int.reduceAdd, Int.reduceSub, Int.reduceMul, Nat.reduceMul, Qp0, Qp1, Ql0, Qe0, rd_M, rdM_some, hm, hw, List.set_cons_zero, List.set_cons_succ, List.take_zero, List.drop_succ_cons, List.drop_zero, List.drop_nil, List.nil_append, List.append_nil, List.take_succ_cons, ite_true, PH.new_new]
  have hcc := hcc.put (F := fun x => x = ib ∨ x = rb ∨ x = wb) (b := wb) (.inr (.inr rfl)) ⟨[.int .i64 x1, .int .i64 x2, .int .i64 x3, .int .i64 x1, .slice A x4.length cap, str x5, str x6, str x8, .bool x7, .int .i64 x9], 10⟩
  have hi := IS_put hi hw (show (10 : Nat) ≠ 3 by omega) ⟨[.int .i64 x1, .int .i64 x2, .int .i64 x3, .int .i64 x1, .slice A x4.length cap, str x5, str x6, str x8, .bool x7, .int .i64 x9], 10⟩
  have hrv := hrv.chg (F := (· = wb)) ((Chg.refl (· = wb) q16).one ⟨[.int .i64 x1, .int .i64 x2, .int .i64 x3, .int .i64 x1, .slice A x4.length cap, str x5, str x6, str x8, .bool x7, .int .i64 x9], 10⟩) (fun a ea e => (hnA a ea).2.2.1 e)
  have hm : (q16.new wb ⟨[.int .i64 x1, .int .i64 x2, .int .i64 x3, .int .i64 x1, .slice A x4.length cap, str x5, str x6, str x8, .bool x7, .int .i64 x9], 10⟩).m rb = some ⟨[.int .i64 0, .int .i64 0, .int .i64 0, .int .i64 0, .slice none 0 0, .string ⟨#[]⟩, .string ⟨#[]⟩, .string ⟨#[]⟩, .bool false, .int .i64 0], 10⟩ := by rw [PH.new_m, if_neg hrw]; exact hm
  have hw : (q16.new wb ⟨[.int .i64 x1, .int .i64 x2, .int .i64 x3, .int .i64 x1, .slice A x4.length cap, str x5, str x6, str x8, .bool x7, .int .i64 x9], 10⟩).m wb = some ⟨[.int .i64 x1, .int .i64 x2, .int .i64 x3, .int .i64 x1, .slice A x4.length cap, str x5, str x6, str x8, .bool x7, .int .i64 x9], 10⟩ := by rw [PH.new_m, if_pos rfl]
  have hibl : ib < (q16.new wb ⟨[.int .i64 x1, .int .i64 x2, .int .i64 x3, .int .i64 x1, .slice A x4.length cap, str x5, str x6, str x8, .bool x7, .int .i64 x9], 10⟩).top := by simp only [PH.new_top]; omega
  generalize q16.new wb ⟨[.int .i64 x1, .int .i64 x2, .int .i64 x3, .int .i64 x1, .slice A x4.length cap, str x5, str x6, str x8, .bool x7, .int .i64 x9], 10⟩ = q17 at *
  have hch : ChW 16 1099511627776 64 32 128 s.length s x1 x2 x3 x4 x5 x6 x7 x8 x9 s1 s2 s3 s4 s5 s6 s7 s8 s9 := ⟨e1, e2, e3, e4, e5, e6, e7, e8, e9⟩
  have hC0 : ∀ q, PH.Le q17 q → rdN w0 q ⟨wb, 0, none⟩ 10 = some [.int .i64 x1, .int .i64 x2, .int .i64 x3, .int .i64 x1, .slice A x4.length cap, str x5, str x6, str x8, .bool x7, .int .i64 x9] := fun q hl => by unfold rdN; simp only [hl.m _ _ hw]; rfl
  have hz := allOne_of [.int .i64 0, .int .i64 0, .int .i64 0, .int .i64 0, .slice none 0 0, .string ⟨#[]⟩, .string ⟨#[]⟩, .string ⟨#[]⟩, .bool false, .int .i64 0] rfl
  have ha2 := allOne_of [.int .i64 x1, .int .i64 x2, .int .i64 x3, .int .i64 x1, .slice A x4.length cap, str x5, str x6, str x8, .bool x7, .int .i64 x9] rfl
  have hleq : PH.Le h q17 := ⟨Nat.le_trans hle2.top hcc.top, fun x k e => hcc.m x k (hle2.m x k e) (fun e' => by have := h.lt _ _ e; rcases e' with e' | e' | e' <;> omega)⟩
  refine (end_any w0 q17 ib s _ hi).mono ?_
  rintro v q8 ⟨he, hl8⟩
  have hm8 := hl8.m _ _ hm
  have hC8 := hC0 q8 hl8
  have hle8 := hleq.trans hl8
  have hrv8 := hrv.more hl8
  rcases EE_told he with ⟨hok, rfl⟩ | ⟨hn, be, p, rfl, hbe⟩
  · have hs0 := hch.back hok
    have hR := rightW_any w0 q8 ⟨x1, x2, x3, x1, x4, x5, x6, x8, x7, x9⟩ A cap hrv8 hcap (by have := vecS_len e4; simp only; omega)
    unfold wtL at hR
    simp only at hR
    cases hr : rightW ⟨x1, x2, x3, x1, x4, x5, x6, x8, x7, x9⟩ with
    | true =>
      rw [hr] at hR
      have hR := Lib.hid hR
      simp -dsimp -implicitDefEqProofs (disch := first | omega | assumption | (simp only [Option.isSome_some, Qt0]; done) | (simp only [UInt64.reduceToNat, UInt32.reduceToNat, UInt8.reduceToNat, List.length_cons, List.length_nil, List.length_append, Int.toNat_natCast] <;> omega) | fail) only [Nat.reduceLT, Nat.reduceLeDiff, Nat.reduceEqDiff, ↓reduceIte, Int.reduceLT, Int.reduceLE, Int.reduceToNat, Int.reduceEq, Int.reduceNe, Nat.reduceAdd, UInt8.reduceOfNat, UInt16.reduceOfNat, UInt32.reduceOfNat, UInt64.reduceOfNat, UInt64.reduceToNat, UInt32.reduceToNat, UInt16.reduceToNat, UInt8.reduceToNat, Int.reduceAdd, Int.reduceSub, Int.reduceMul, Nat.reduceMul, Qp0, Qp1, Ql0, Qe0, hC8]
      refine hR.out.mono ?_
      rintro v hq ⟨rfl, hz⟩
      obtain rfl := hz.symm
      simp -dsimp -implicitDefEqProofs (disch := first | omega | assumption | (simp only [Option.isSome_some, Qt0]; done) | (simp only [UInt64.reduceToNat, UInt32.reduceToNat, UInt8.reduceToNat, List.length_cons, List.length_nil, List.length_append, Int.toNat_natCast] <;> omega) | fail) only [Nat.reduceLT, Nat.reduceLeDiff, Nat.reduceEqDiff, ↓reduceIte, Int.reduceLT, Int.reduceLE, Int.reduceToNat, Int.reduceEq, Int.reduceNe, Nat.reduceAdd, UInt8.reduceOfNat, UInt16.reduceOfNat, UInt32.reduceOfNat, UInt64.reduceOfNat, UInt64.reduceToNat, UInt32.reduceToNat, UInt16.reduceToNat, UInt8.reduceToNat, Int.reduceAdd, Int.reduceSub, Int.reduceMul, Nat.reduceMul, Qp0, Qp1, Ql0, Qe0, hC8, hm8, rdN_new, List.set_cons_zero, List.set_cons_succ, List.take_zero, List.drop_succ_cons, List.drop_zero, List.drop_nil, List.nil_append, List.append_nil, List.take_succ_cons, ite_true, PH.new_new]
      refine ⟨_, PH.Le.refl _, .inl ⟨⟨x1, x2, x3, x1, x4, x5, x6, x8, x7, x9⟩, A, cap, ⟨hr, hs0⟩, rfl, hcap, ?_, fun a ea => (hnA a ea).2.2.2⟩, hle8.new _ _ hrb⟩
      exact hrv8.chg (F := (· = rb)) ((Chg.refl _ _).one _) (fun a ea e => (hnA a ea).2.1 e)
    | false =>
      rw [hr] at hR
      have hR := Lib.hid hR
      simp -dsimp -implicitDefEqProofs (disch := first | omega | assumption | (simp only [Option.isSome_some, Qt0]; done) | (simp only [UInt64.reduceToNat, UInt32.reduceToNat, UInt8.reduceToNat, List.length_cons, List.length_nil, List.length_append, Int.toNat_natCast] <;> omega) | fail) only [Nat.reduceLT, Nat.reduceLeDiff, Nat.reduceEqDiff, ↓reduceIte, Int.reduceLT, Int.reduceLE, Int.reduceToNat, Int.reduceEq, Int.reduceNe, Nat.reduceAdd, UInt8.reduceOfNat, UInt16.reduceOfNat, UInt32.reduceOfNat, UInt64.reduceOfNat, UInt64.reduceToNat, UInt32.reduceToNat, UInt16.reduceToNat, UInt8.reduceToNat, Int.reduceAdd, Int.reduceSub, Int.reduceMul, Nat.reduceMul, Qp0, Qp1, Ql0, Qe0, hC8]
      refine hR.out.mono ?_
      rintro v hq ⟨rfl, hz⟩
      obtain rfl := hz.symm
      simp -dsimp -implicitDefEqProofs (disch := first | omega | assumption | (simp only [Option.isSome_some, Qt0]; done) | (simp only [UInt64.reduceToNat, UInt32.reduceToNat, UInt8.reduceToNat, List.length_cons, List.length_nil, List.length_append, Int.toNat_natCast] <;> omega) | fail) only [Nat.reduceLT, Nat.reduceLeDiff, Nat.reduceEqDiff, ↓reduceIte, Int.reduceLT, Int.reduceLE, Int.reduceToNat, Int.reduceEq, Int.reduceNe, Nat.reduceAdd, UInt8.reduceOfNat, UInt16.reduceOfNat, UInt32.reduceOfNat, UInt64.reduceOfNat, UInt64.reduceToNat, UInt32.reduceToNat, UInt16.reduceToNat, UInt8.reduceToNat, Int.reduceAdd, Int.reduceSub, Int.reduceMul, Nat.reduceMul, Qp0, Qp1, Ql0, Qe0]
      refine (at_any wireT _ _ _ w0 _).mono ?_
      rintro v q9 ⟨be, rfl, hbe, rfl⟩
      have hl9 := (PH.Le.refl q8).new be ⟨[str wireT, .int .i64 0, .iface 40 (.int .i64 2)], 3⟩ hbe
      have hmb : (q8.new be ⟨[str wireT, .int .i64 0, .iface 40 (.int .i64 2)], 3⟩).m be = some ⟨[str wireT, .int .i64 0, .iface 40 (.int .i64 2)], 3⟩ := by rw [PH.new_m, if_pos rfl]
      have hm9 := hl9.m _ _ hm8
      have hnb : be ≠ rb := by have := q8.lt _ _ hm8; omega
      generalize q8.new be ⟨[str wireT, .int .i64 0, .iface 40 (.int .i64 2)], 3⟩ = q9 at *
      unfold errV
      simp -dsimp -implicitDefEqProofs (disch := first | omega | assumption | (simp only [Option.isSome_some, Qt0]; done) | (simp only [UInt64.reduceToNat, UInt32.reduceToNat, UInt8.reduceToNat, List.length_cons, List.length_nil, List.length_append, Int.toNat_natCast] <;> omega) | fail) only [Nat.reduceLT, Nat.reduceLeDiff, Nat.reduceEqDiff, ↓reduceIte, Int.reduceLT, Int.reduceLE, Int.reduceToNat, Int.reduceEq, Int.reduceNe, Nat.reduceAdd, UInt8.reduceOfNat, UInt16.reduceOfNat, UInt32.reduceOfNat, UInt64.reduceOfNat, UInt64.reduceToNat, UInt32.reduceToNat, UInt16.reduceToNat, UInt8.reduceToNat, Int.reduceAdd, Int.reduceSub, Int.reduceMul, Nat.reduceMul, Qp0, Qp1, Ql0, Qe0, hm9, rdN_new, List.set_cons_zero, List.set_cons_succ, List.take_zero, List.drop_succ_cons, List.drop_zero, List.drop_nil, List.nil_append, List.append_nil, List.take_succ_cons, ite_true, PH.new_new]
      refine ⟨_, PH.Le.refl _, .inr ⟨fun d hd => ?_, _, .wrap wireT 0 (.code 2), rfl, ⟨be, _, rfl, by rw [PH.new_m, if_neg hnb]; exact hmb, rfl⟩, rfl⟩, (hle8.trans hl9).new _ _ hrb⟩
      obtain ⟨h5, _⟩ := hch.fwd (by omega) (by omega) (by omega) (by omega) (by omega) hd
      rw [h5] at hd
      rw [hd.1] at hr; cases hr
  · unfold errV
    have hnb : be ≠ rb := fun e => by
      rw [e, hm8] at hbe
      injection hbe with hbe
      injection hbe with _ hbe
      omega
    simp -dsimp -implicitDefEqProofs (disch := first | omega | assumption | (simp only [Option.isSome_some, Qt0]; done) | (simp only [UInt64.reduceToNat, UInt32.reduceToNat, UInt8.reduceToNat, List.length_cons, List.length_nil, List.length_append, Int.toNat_natCast] <;> omega) | fail) only [Nat.reduceLT, Nat.reduceLeDiff, Nat.reduceEqDiff, ↓reduceIte, Int.reduceLT, Int.reduceLE, Int.reduceToNat, Int.reduceEq, Int.reduceNe, Nat.reduceAdd, UInt8.reduceOfNat, UInt16.reduceOfNat, UInt32.reduceOfNat, UInt64.reduceOfNat, UInt64.reduceToNat, UInt32.reduceToNat, UInt16.reduceToNat, UInt8.reduceToNat, Int.reduceAdd, Int.reduceSub, Int.reduceMul, Nat.reduceMul, Qp0, Qp1, Ql0, Qe0, hm8, rdN_new, List.set_cons_zero, List.set_cons_succ, List.take_zero, List.drop_succ_cons, List.drop_zero, List.drop_nil, List.nil_append, List.append_nil, List.take_succ_cons, ite_true, PH.new_new]
    refine ⟨_, PH.Le.refl _, .inr ⟨fun d hd => ?_, _, .wrap wireT p (.code 2), rfl, ⟨be, _, rfl, by rw [PH.new_m, if_neg hnb]; exact hbe, rfl⟩, rfl⟩, hle8.new _ _ hrb⟩
    exact hn (hch.fwd (by omega) (by omega) (by omega) (by omega) (by omega) hd).2
end Go.Proofs.Ytdhgmifgjaedbaa

