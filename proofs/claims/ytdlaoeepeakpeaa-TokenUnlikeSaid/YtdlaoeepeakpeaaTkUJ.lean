/- TokenUnlike: two claims have the same token, under one ring, just if they are the same but for their Key. No condition. -/
import Derived.Test.YtdlaoeepeakpeaaM11A
import Derived.Test.YtdlaoeepeakpeaaM8A
import Derived.Test.YtdlaoeepeakpeaaChecked
namespace Go.Proofs.Ytdlaoeepeakpeaa.TkU
set_option linter.unusedVariables false
set_option linter.unusedSimpArgs false
open Go.ChangeShapes Go.WideShapes Go.ChangeAt Go.RowKit Base Px Wr
set_option maxRecDepth 20000 in
set_option maxHeartbeats 4000000 in
theorem walk_TokenUnlike (c : Cl) (A_c : Option Addr) (cap_c : Nat) (d : Cl) (A_d : Option Addr) (cap_d : Nat) (n : Int) (w : World) (hcap_c : c.x.length ≤ cap_c ∧ c.x.length ≤ 9223372036854775807) (hrv_c : ∀ h, Rv w h A_c (ints c.x)) (hcap_d : d.x.length ≤ cap_d ∧ d.x.length ≤ 9223372036854775807) (hrv_d : ∀ h, Rv w h A_d (ints d.x)) (hw_n : (Lit.int .u16 n).wf = true) : Calls Try.prog 4 #[.agg (clL c A_c cap_c).toArray, .agg (clL d A_d cap_d).toArray, .int .u16 n] w fun e w' => e = .returned (.bool true) ∧ Below w.heap.size w w' := by
  refine law_calls (args := [.agg (clL c A_c cap_c).toArray, .agg (clL d A_d cap_d).toArray, .int .u16 n]) (Calls_body Try.func4 rfl _ Try.ntmps4 (by kernel_rfl) (by kernel_rfl) _ Try.results4 ?_ w (Sim.empty w))
  obtain ⟨nu, rfl⟩ := u16_lit hw_n
  have hnu := nu.toNat_lt
  unfold clL
  simp -dsimp -implicitDefEqProofs (disch := first | omega | assumption | (simp only [Option.isSome_some, Qt0]; done) | (simp only [UInt64.reduceToNat, UInt32.reduceToNat, UInt8.reduceToNat, List.length_cons, List.length_nil, List.length_append, Int.toNat_natCast] <;> omega)) only [Nat.reduceLT, Nat.reduceLeDiff, Nat.reduceEqDiff, ↓reduceIte, Int.reduceLT, Int.reduceLE, Int.reduceToNat, Int.reduceEq, Int.reduceNe, Nat.reduceAdd, UInt8.reduceOfNat, UInt16.reduceOfNat, UInt32.reduceOfNat, UInt64.reduceOfNat, UInt64.reduceToNat, UInt32.reduceToNat, UInt16.reduceToNat, UInt8.reduceToNat, Int.reduceAdd, Int.reduceSub, Int.reduceMul, Nat.reduceMul, Qp0, Ql0, Qe0]
  refine fun pb hpb => ?_
  have hle_pb := (PH.Le.refl (PH.empty w)).new pb ⟨[str c.s, str c.u, .int .i64 c.e, .int .i64 c.i, .int .i64 c.k, .slice A_c c.x.length cap_c], 6⟩ hpb
  have hm_pb : ((PH.empty w).new pb ⟨[str c.s, str c.u, .int .i64 c.e, .int .i64 c.i, .int .i64 c.k, .slice A_c c.x.length cap_c], 6⟩).m pb = some ⟨[str c.s, str c.u, .int .i64 c.e, .int .i64 c.i, .int .i64 c.k, .slice A_c c.x.length cap_c], 6⟩ := by rw [PH.new_m, if_pos rfl]
  simp -dsimp -implicitDefEqProofs (disch := first | omega | assumption | (simp only [Option.isSome_some, Qt0]; done) | (simp only [UInt64.reduceToNat, UInt32.reduceToNat, UInt8.reduceToNat, List.length_cons, List.length_nil, List.length_append, Int.toNat_natCast] <;> omega)) only [Nat.reduceLT, Nat.reduceLeDiff, Nat.reduceEqDiff, ↓reduceIte, Int.reduceLT, Int.reduceLE, Int.reduceToNat, Int.reduceEq, Int.reduceNe, Nat.reduceAdd, UInt8.reduceOfNat, UInt16.reduceOfNat, UInt32.reduceOfNat, UInt64.reduceOfNat, UInt64.reduceToNat, UInt32.reduceToNat, UInt16.reduceToNat, UInt8.reduceToNat, Int.reduceAdd, Int.reduceSub, Int.reduceMul, Nat.reduceMul, Qp0, Ql0, Qe0]
  generalize (PH.empty w).new pb ⟨[str c.s, str c.u, .int .i64 c.e, .int .i64 c.i, .int .i64 c.k, .slice A_c c.x.length cap_c], 6⟩ = h0 at *
  refine fun pd hpd => ?_
  have hle_pd := (PH.Le.refl h0).new pd ⟨[str d.s, str d.u, .int .i64 d.e, .int .i64 d.i, .int .i64 d.k, .slice A_d d.x.length cap_d], 6⟩ hpd
  have hm_pd : (h0.new pd ⟨[str d.s, str d.u, .int .i64 d.e, .int .i64 d.i, .int .i64 d.k, .slice A_d d.x.length cap_d], 6⟩).m pd = some ⟨[str d.s, str d.u, .int .i64 d.e, .int .i64 d.i, .int .i64 d.k, .slice A_d d.x.length cap_d], 6⟩ := by rw [PH.new_m, if_pos rfl]
  simp -dsimp -implicitDefEqProofs (disch := first | omega | assumption | (simp only [Option.isSome_some, Qt0]; done) | (simp only [UInt64.reduceToNat, UInt32.reduceToNat, UInt8.reduceToNat, List.length_cons, List.length_nil, List.length_append, Int.toNat_natCast] <;> omega)) only [Nat.reduceLT, Nat.reduceLeDiff, Nat.reduceEqDiff, ↓reduceIte, Int.reduceLT, Int.reduceLE, Int.reduceToNat, Int.reduceEq, Int.reduceNe, Nat.reduceAdd, UInt8.reduceOfNat, UInt16.reduceOfNat, UInt32.reduceOfNat, UInt64.reduceOfNat, UInt64.reduceToNat, UInt32.reduceToNat, UInt16.reduceToNat, UInt8.reduceToNat, Int.reduceAdd, Int.reduceSub, Int.reduceMul, Nat.reduceMul, Qp0, Ql0, Qe0]
  generalize h0.new pd ⟨[str d.s, str d.u, .int .i64 d.e, .int .i64 d.i, .int .i64 d.k, .slice A_d d.x.length cap_d], 6⟩ = h00 at *
  have hpd_lt : pb ≠ pd := by have := h0.lt _ _ hm_pb; omega
  refine (wake12 w h00).mono ?_
  rintro v h1 ⟨rfl, hl1⟩
  have hp1 := hl1.m _ _ (hle_pd.m _ _ hm_pb)
  have hd1 := hl1.m _ _ hm_pd
  have hle1 := (hle_pb.trans hle_pd).trans hl1
  have hs_pb : rdN w h1 ⟨pb, 0, none⟩ 6 = some [str c.s, str c.u, .int .i64 c.e, .int .i64 c.i, .int .i64 c.k, .slice A_c c.x.length cap_c] := by unfold rdN; simp only [hp1]; rfl
  have hG := great_any c A_c cap_c w h1
  unfold clL at hG
  have hG := Lib.hid hG
  simp -dsimp -implicitDefEqProofs (disch := first | omega | assumption | (simp only [Option.isSome_some, Qt0]; done) | (simp only [UInt64.reduceToNat, UInt32.reduceToNat, UInt8.reduceToNat, List.length_cons, List.length_nil, List.length_append, Int.toNat_natCast] <;> omega)) only [Nat.reduceLT, Nat.reduceLeDiff, Nat.reduceEqDiff, ↓reduceIte, Int.reduceLT, Int.reduceLE, Int.reduceToNat, Int.reduceEq, Int.reduceNe, Nat.reduceAdd, UInt8.reduceOfNat, UInt16.reduceOfNat, UInt32.reduceOfNat, UInt64.reduceOfNat, UInt64.reduceToNat, UInt32.reduceToNat, UInt16.reduceToNat, UInt8.reduceToNat, Int.reduceAdd, Int.reduceSub, Int.reduceMul, Nat.reduceMul, Qp0, Ql0, Qe0, hs_pb]
  refine hG.out.mono ?_
  rintro v h2 ⟨rfl, hl2⟩
  have hp2 := hl2.m _ _ hp1
  have hd2 := hl2.m _ _ hd1
  have hle2 := hle1.trans hl2
  clear hs_pb
  cases hg : greatC c
  rotate_left
  · simp -dsimp -implicitDefEqProofs (disch := first | omega | assumption | (simp only [Option.isSome_some, Qt0]; done) | (simp only [UInt64.reduceToNat, UInt32.reduceToNat, UInt8.reduceToNat, List.length_cons, List.length_nil, List.length_append, Int.toNat_natCast] <;> omega)) only [Nat.reduceLT, Nat.reduceLeDiff, Nat.reduceEqDiff, ↓reduceIte, Int.reduceLT, Int.reduceLE, Int.reduceToNat, Int.reduceEq, Int.reduceNe, Nat.reduceAdd, UInt8.reduceOfNat, UInt16.reduceOfNat, UInt32.reduceOfNat, UInt64.reduceOfNat, UInt64.reduceToNat, UInt32.reduceToNat, UInt16.reduceToNat, UInt8.reduceToNat, Int.reduceAdd, Int.reduceSub, Int.reduceMul, Nat.reduceMul, Qp0, Ql0, Qe0, hg]
    exact ⟨_, hle2, by trivial⟩
  have hs_pd : rdN w h2 ⟨pd, 0, none⟩ 6 = some [str d.s, str d.u, .int .i64 d.e, .int .i64 d.i, .int .i64 d.k, .slice A_d d.x.length cap_d] := by unfold rdN; simp only [hd2]; rfl
  have hG2 := great_any d A_d cap_d w h2
  unfold clL at hG2
  have hG2 := Lib.hid hG2
  simp -dsimp -implicitDefEqProofs (disch := first | omega | assumption | (simp only [Option.isSome_some, Qt0]; done) | (simp only [UInt64.reduceToNat, UInt32.reduceToNat, UInt8.reduceToNat, List.length_cons, List.length_nil, List.length_append, Int.toNat_natCast] <;> omega)) only [Nat.reduceLT, Nat.reduceLeDiff, Nat.reduceEqDiff, ↓reduceIte, Int.reduceLT, Int.reduceLE, Int.reduceToNat, Int.reduceEq, Int.reduceNe, Nat.reduceAdd, UInt8.reduceOfNat, UInt16.reduceOfNat, UInt32.reduceOfNat, UInt64.reduceOfNat, UInt64.reduceToNat, UInt32.reduceToNat, UInt16.reduceToNat, UInt8.reduceToNat, Int.reduceAdd, Int.reduceSub, Int.reduceMul, Nat.reduceMul, Qp0, Ql0, Qe0, hg, hs_pd]
  refine hG2.out.mono ?_
  rintro v h3 ⟨rfl, hl3⟩
  have hp3 := hl3.m _ _ hp2
  have hd3 := hl3.m _ _ hd2
  have hle3 := hle2.trans hl3
  clear hs_pd
  cases hg2 : greatC d
  rotate_left
  · simp -dsimp -implicitDefEqProofs (disch := first | omega | assumption | (simp only [Option.isSome_some, Qt0]; done) | (simp only [UInt64.reduceToNat, UInt32.reduceToNat, UInt8.reduceToNat, List.length_cons, List.length_nil, List.length_append, Int.toNat_natCast] <;> omega)) only [Nat.reduceLT, Nat.reduceLeDiff, Nat.reduceEqDiff, ↓reduceIte, Int.reduceLT, Int.reduceLE, Int.reduceToNat, Int.reduceEq, Int.reduceNe, Nat.reduceAdd, UInt8.reduceOfNat, UInt16.reduceOfNat, UInt32.reduceOfNat, UInt64.reduceOfNat, UInt64.reduceToNat, UInt32.reduceToNat, UInt16.reduceToNat, UInt8.reduceToNat, Int.reduceAdd, Int.reduceSub, Int.reduceMul, Nat.reduceMul, Qp0, Ql0, Qe0, hg2]
    exact ⟨_, hle3, by trivial⟩
  have hri : right [109] (nu.toNat : Int) := ⟨by decide, by decide, by omega, by omega⟩
  have hN := Lib.hid (new_right [109] (nu.toNat : Int) hri w h3)
  simp -dsimp -implicitDefEqProofs (disch := first | omega | assumption | (simp only [Option.isSome_some, Qt0]; done) | (simp only [UInt64.reduceToNat, UInt32.reduceToNat, UInt8.reduceToNat, List.length_cons, List.length_nil, List.length_append, Int.toNat_natCast] <;> omega)) only [Nat.reduceLT, Nat.reduceLeDiff, Nat.reduceEqDiff, ↓reduceIte, Int.reduceLT, Int.reduceLE, Int.reduceToNat, Int.reduceEq, Int.reduceNe, Nat.reduceAdd, UInt8.reduceOfNat, UInt16.reduceOfNat, UInt32.reduceOfNat, UInt64.reduceOfNat, UInt64.reduceToNat, UInt32.reduceToNat, UInt16.reduceToNat, UInt8.reduceToNat, Int.reduceAdd, Int.reduceSub, Int.reduceMul, Nat.reduceMul, Qp0, Ql0, Qe0, hg2]
  refine hN.out.mono ?_
  rintro v h4 ⟨b, rfl, hb_b, rfl⟩
  have hl_b := (PH.Le.refl h3).new b ⟨[str [109], .int .i64 (nu.toNat : Int)], 2⟩ hb_b
  have hm_b : (h3.new b ⟨[str [109], .int .i64 (nu.toNat : Int)], 2⟩).m b = some ⟨[str [109], .int .i64 (nu.toNat : Int)], 2⟩ := by rw [PH.new_m, if_pos rfl]
  generalize h3.new b ⟨[str [109], .int .i64 (nu.toNat : Int)], 2⟩ = h4 at *

  have hp4 := hl_b.m _ _ hp3
  have hd4 := hl_b.m _ _ hd3
  have hle4 := hle3.trans hl_b
  have hs_pb : rdN w h4 ⟨pb, 0, none⟩ 6 = some [str c.s, str c.u, .int .i64 c.e, .int .i64 c.i, .int .i64 c.k, .slice A_c c.x.length cap_c] := by unfold rdN; simp only [hp4]; rfl
  have hM := mint_any b [109] (nu.toNat : Int) hri w h4 hm_b c A_c cap_c (hrv_c h4) hcap_c.1 hcap_c.2
  unfold clL at hM
  have hM := Lib.hid hM
  simp -dsimp -implicitDefEqProofs (disch := first | omega | assumption | (simp only [Option.isSome_some, Qt0]; done) | (simp only [UInt64.reduceToNat, UInt32.reduceToNat, UInt8.reduceToNat, List.length_cons, List.length_nil, List.length_append, Int.toNat_natCast] <;> omega)) only [Nat.reduceLT, Nat.reduceLeDiff, Nat.reduceEqDiff, ↓reduceIte, Int.reduceLT, Int.reduceLE, Int.reduceToNat, Int.reduceEq, Int.reduceNe, Nat.reduceAdd, UInt8.reduceOfNat, UInt16.reduceOfNat, UInt32.reduceOfNat, UInt64.reduceOfNat, UInt64.reduceToNat, UInt32.reduceToNat, UInt16.reduceToNat, UInt8.reduceToNat, Int.reduceAdd, Int.reduceSub, Int.reduceMul, Nat.reduceMul, Qp0, Ql0, Qe0, hs_pb]
  refine hM.out.mono ?_
  rintro v h5 ⟨hm, hl5⟩
  have hp5 := hl5.m _ _ hp4
  have hd5 := hl5.m _ _ hd4
  have hb5 := hl5.m _ _ hm_b
  have hle5 := hle4.trans hl5
  have hs_pd : rdN w h5 ⟨pd, 0, none⟩ 6 = some [str d.s, str d.u, .int .i64 d.e, .int .i64 d.i, .int .i64 d.k, .slice A_d d.x.length cap_d] := by unfold rdN; simp only [hd5]; rfl
  have hM2 := mint_any b [109] (nu.toNat : Int) hri w h5 hb5 d A_d cap_d (hrv_d h5) hcap_d.1 hcap_d.2
  unfold clL at hM2
  have hM2 := Lib.hid hM2
  unfold MINT at hm
  have hTT : decide (([] : List UInt8) = []) = true := rfl
  cases hr : rightC { c with k := (nu.toNat : Int) } with
  | false =>
    rw [hr, if_neg (by simp)] at hm
    obtain ⟨ev, e, rfl, hev, hn⟩ := hm
    obtain ⟨t, x, rfl⟩ := hev.held
    simp -dsimp -implicitDefEqProofs (disch := first | omega | assumption | (simp only [Option.isSome_some, Qt0]; done) | (simp only [UInt64.reduceToNat, UInt32.reduceToNat, UInt8.reduceToNat, List.length_cons, List.length_nil, List.length_append, Int.toNat_natCast] <;> omega)) only [Nat.reduceLT, Nat.reduceLeDiff, Nat.reduceEqDiff, ↓reduceIte, Int.reduceLT, Int.reduceLE, Int.reduceToNat, Int.reduceEq, Int.reduceNe, Nat.reduceAdd, UInt8.reduceOfNat, UInt16.reduceOfNat, UInt32.reduceOfNat, UInt64.reduceOfNat, UInt64.reduceToNat, UInt32.reduceToNat, UInt16.reduceToNat, UInt8.reduceToNat, Int.reduceAdd, Int.reduceSub, Int.reduceMul, Nat.reduceMul, Qp0, Ql0, Qe0, hs_pd]
    refine hM2.out.mono ?_
    rintro v h6 ⟨hm2, hl6⟩
    have hle6 := hle5.trans hl6
    unfold MINT at hm2
    cases hr2 : rightC { d with k := (nu.toNat : Int) } with
    | false =>
      rw [hr2, if_neg (by simp)] at hm2
      obtain ⟨ev2, e2, rfl, hev2, hn2⟩ := hm2
      obtain ⟨t2, x2, rfl⟩ := hev2.held
      simp -dsimp -implicitDefEqProofs (disch := first | omega | assumption | (simp only [Option.isSome_some, Qt0]; done) | (simp only [UInt64.reduceToNat, UInt32.reduceToNat, UInt8.reduceToNat, List.length_cons, List.length_nil, List.length_append, Int.toNat_natCast] <;> omega)) only [Nat.reduceLT, Nat.reduceLeDiff, Nat.reduceEqDiff, ↓reduceIte, Int.reduceLT, Int.reduceLE, Int.reduceToNat, Int.reduceEq, Int.reduceNe, Nat.reduceAdd, UInt8.reduceOfNat, UInt16.reduceOfNat, UInt32.reduceOfNat, UInt64.reduceOfNat, UInt64.reduceToNat, UInt32.reduceToNat, UInt16.reduceToNat, UInt8.reduceToNat, Int.reduceAdd, Int.reduceSub, Int.reduceMul, Nat.reduceMul, Qp0, Ql0, Qe0, hTT]
      exact ⟨_, hle6, by trivial⟩
    | true =>
      rw [hr2, if_pos rfl] at hm2
      subst hm2
      generalize tok (derive [109]) { d with k := (nu.toNat : Int) } = T2 at *
      simp -dsimp -implicitDefEqProofs (disch := first | omega | assumption | (simp only [Option.isSome_some, Qt0]; done) | (simp only [UInt64.reduceToNat, UInt32.reduceToNat, UInt8.reduceToNat, List.length_cons, List.length_nil, List.length_append, Int.toNat_natCast] <;> omega)) only [Nat.reduceLT, Nat.reduceLeDiff, Nat.reduceEqDiff, ↓reduceIte, Int.reduceLT, Int.reduceLE, Int.reduceToNat, Int.reduceEq, Int.reduceNe, Nat.reduceAdd, UInt8.reduceOfNat, UInt16.reduceOfNat, UInt32.reduceOfNat, UInt64.reduceOfNat, UInt64.reduceToNat, UInt32.reduceToNat, UInt16.reduceToNat, UInt8.reduceToNat, Int.reduceAdd, Int.reduceSub, Int.reduceMul, Nat.reduceMul, Qp0, Ql0, Qe0, hTT]
      exact ⟨_, hle6, by trivial⟩
  | true =>
    rw [hr, if_pos rfl] at hm
    subst hm
    have hinj := fun hr2 => @tok_inj (derive [109]) { c with k := (nu.toNat : Int) } { d with k := (nu.toNat : Int) } hr hr2
    have hxc := trim_len (rightC_iff.1 hr).2.2.2.2.2.2.2
    obtain ⟨T1, hT1⟩ : ∃ T, tok (derive [109]) { c with k := (nu.toNat : Int) } = T := ⟨_, rfl⟩
    rw [hT1]
    simp -dsimp -implicitDefEqProofs (disch := first | omega | assumption | (simp only [Option.isSome_some, Qt0]; done) | (simp only [UInt64.reduceToNat, UInt32.reduceToNat, UInt8.reduceToNat, List.length_cons, List.length_nil, List.length_append, Int.toNat_natCast] <;> omega)) only [Nat.reduceLT, Nat.reduceLeDiff, Nat.reduceEqDiff, ↓reduceIte, Int.reduceLT, Int.reduceLE, Int.reduceToNat, Int.reduceEq, Int.reduceNe, Nat.reduceAdd, UInt8.reduceOfNat, UInt16.reduceOfNat, UInt32.reduceOfNat, UInt64.reduceOfNat, UInt64.reduceToNat, UInt32.reduceToNat, UInt16.reduceToNat, UInt8.reduceToNat, Int.reduceAdd, Int.reduceSub, Int.reduceMul, Nat.reduceMul, Qp0, Ql0, Qe0, hs_pd]
    refine hM2.out.mono ?_
    rintro v h6 ⟨hm2, hl6⟩
    have hle6 := hle5.trans hl6
    unfold MINT at hm2
    cases hr2 : rightC { d with k := (nu.toNat : Int) } with
    | false =>
      rw [hr2, if_neg (by simp)] at hm2
      obtain ⟨ev2, e2, rfl, hev2, hn2⟩ := hm2
      obtain ⟨t2, x2, rfl⟩ := hev2.held
      simp -dsimp -implicitDefEqProofs (disch := first | omega | assumption | (simp only [Option.isSome_some, Qt0]; done) | (simp only [UInt64.reduceToNat, UInt32.reduceToNat, UInt8.reduceToNat, List.length_cons, List.length_nil, List.length_append, Int.toNat_natCast] <;> omega)) only [Nat.reduceLT, Nat.reduceLeDiff, Nat.reduceEqDiff, ↓reduceIte, Int.reduceLT, Int.reduceLE, Int.reduceToNat, Int.reduceEq, Int.reduceNe, Nat.reduceAdd, UInt8.reduceOfNat, UInt16.reduceOfNat, UInt32.reduceOfNat, UInt64.reduceOfNat, UInt64.reduceToNat, UInt32.reduceToNat, UInt16.reduceToNat, UInt8.reduceToNat, Int.reduceAdd, Int.reduceSub, Int.reduceMul, Nat.reduceMul, Qp0, Ql0, Qe0, hTT]
      exact ⟨_, hle6, by trivial⟩
    | true =>
      rw [hr2, if_pos rfl] at hm2
      subst hm2
      obtain ⟨T2, hT2⟩ : ∃ T, tok (derive [109]) { d with k := (nu.toNat : Int) } = T := ⟨_, rfl⟩
      rw [hT2]
      have hp6 := hl6.m _ _ hp5
      have hd6 := hl6.m _ _ hd5
      have hlt6 := h6.lt _ _ hp6
      have hltd := h6.lt _ _ hd6
      have hne1 : (pb = pd) = False := eq_false hpd_lt
      have hne2 : (pd = pb) = False := eq_false (fun e => hpd_lt e.symm)
      have hz7 : (h6.new pb ⟨[str c.s, str c.u, .int .i64 c.e, .int .i64 c.i, .int .i64 0, .slice A_c c.x.length cap_c], 6⟩).m pd = some ⟨[str d.s, str d.u, .int .i64 d.e, .int .i64 d.i, .int .i64 d.k, .slice A_d d.x.length cap_d], 6⟩ := by rw [PH.new_m, if_neg hpd_lt.symm]; exact hd6
      simp -dsimp -implicitDefEqProofs (disch := first | omega | assumption | (simp only [Option.isSome_some, Qt0]; done) | (simp only [UInt64.reduceToNat, UInt32.reduceToNat, UInt8.reduceToNat, List.length_cons, List.length_nil, List.length_append, Int.toNat_natCast] <;> omega)) only [Nat.reduceLT, Nat.reduceLeDiff, Nat.reduceEqDiff, ↓reduceIte, Int.reduceLT, Int.reduceLE, Int.reduceToNat, Int.reduceEq, Int.reduceNe, Nat.reduceAdd, UInt8.reduceOfNat, UInt16.reduceOfNat, UInt32.reduceOfNat, UInt64.reduceOfNat, UInt64.reduceToNat, UInt32.reduceToNat, UInt16.reduceToNat, UInt8.reduceToNat, Int.reduceAdd, Int.reduceSub, Int.reduceMul, Nat.reduceMul, Qp0, Ql0, Qe0, rd_M, rdM_some, hp6, hd6, hne1, hne2, List.set_cons_zero, List.set_cons_succ, PH.new_new, List.set_nil]
      have hA1 : rdN w ((h6.new pb ⟨[str c.s, str c.u, .int .i64 c.e, .int .i64 c.i, .int .i64 0, .slice A_c c.x.length cap_c], 6⟩).new pd ⟨[str d.s, str d.u, .int .i64 d.e, .int .i64 d.i, .int .i64 0, .slice A_d d.x.length cap_d], 6⟩) ⟨pb, 0, none⟩ 6 = some [str c.s, str c.u, .int .i64 c.e, .int .i64 c.i, .int .i64 0, .slice A_c c.x.length cap_c] := by
        unfold rdN
        simp only [PH.new_m, if_neg hpd_lt, if_true]
        rfl
      have hA2 : rdN w ((h6.new pb ⟨[str c.s, str c.u, .int .i64 c.e, .int .i64 c.i, .int .i64 0, .slice A_c c.x.length cap_c], 6⟩).new pd ⟨[str d.s, str d.u, .int .i64 d.e, .int .i64 d.i, .int .i64 0, .slice A_d d.x.length cap_d], 6⟩) ⟨pd, 0, none⟩ 6 = some [str d.s, str d.u, .int .i64 d.e, .int .i64 d.i, .int .i64 0, .slice A_d d.x.length cap_d] := by rw [rdN_new]; rfl
      have hle8 := ((hle5.trans hl6).new pb ⟨[str c.s, str c.u, .int .i64 c.e, .int .i64 c.i, .int .i64 0, .slice A_c c.x.length cap_c], 6⟩ hpb).new pd ⟨[str d.s, str d.u, .int .i64 d.e, .int .i64 d.i, .int .i64 0, .slice A_d d.x.length cap_d], 6⟩ (Nat.le_trans hle_pb.top hpd)
      generalize (h6.new pb ⟨[str c.s, str c.u, .int .i64 c.e, .int .i64 c.i, .int .i64 0, .slice A_c c.x.length cap_c], 6⟩).new pd ⟨[str d.s, str d.u, .int .i64 d.e, .int .i64 d.i, .int .i64 0, .slice A_d d.x.length cap_d], 6⟩ = h8 at *
      have hS := sameC_any w h8 { c with k := 0 } { d with k := 0 } A_c A_d cap_c cap_d (hrv_c _) (hrv_d _) hcap_c.1 hcap_d.1 (by simp only at hxc ⊢; omega)
      unfold clL at hS
      simp only at hS
      have hS := Lib.hid hS
      have hfin : (decide (T1 = T2) == sameC { c with k := 0 } { d with k := 0 }) = true := by
        rw [beq_iff_eq, Bool.eq_iff_iff, decide_eq_true_eq, sameC_iff]
        constructor
        · intro e
          have := hinj hr2 (hT1.trans (e.trans hT2.symm))
          injection this with e1 e2 e3 e4 e5 e6
          rw [e1, e2, e3, e4, e6]
        · intro e
          injection e with e1 e2 e3 e4 e5 e6
          rw [← hT1, ← hT2, e1, e2, e3, e4, e6]
      simp -dsimp -implicitDefEqProofs (disch := first | omega | assumption | (simp only [Option.isSome_some, Qt0]; done) | (simp only [UInt64.reduceToNat, UInt32.reduceToNat, UInt8.reduceToNat, List.length_cons, List.length_nil, List.length_append, Int.toNat_natCast] <;> omega)) only [Nat.reduceLT, Nat.reduceLeDiff, Nat.reduceEqDiff, ↓reduceIte, Int.reduceLT, Int.reduceLE, Int.reduceToNat, Int.reduceEq, Int.reduceNe, Nat.reduceAdd, UInt8.reduceOfNat, UInt16.reduceOfNat, UInt32.reduceOfNat, UInt64.reduceOfNat, UInt64.reduceToNat, UInt32.reduceToNat, UInt16.reduceToNat, UInt8.reduceToNat, Int.reduceAdd, Int.reduceSub, Int.reduceMul, Nat.reduceMul, Qp0, Ql0, Qe0, hA1, hA2]
      refine hS.out.mono ?_
      rintro v hq ⟨rfl, hzq⟩
      simp -dsimp -implicitDefEqProofs (disch := first | omega | assumption | (simp only [Option.isSome_some, Qt0]; done) | (simp only [UInt64.reduceToNat, UInt32.reduceToNat, UInt8.reduceToNat, List.length_cons, List.length_nil, List.length_append, Int.toNat_natCast] <;> omega)) only [Nat.reduceLT, Nat.reduceLeDiff, Nat.reduceEqDiff, ↓reduceIte, Int.reduceLT, Int.reduceLE, Int.reduceToNat, Int.reduceEq, Int.reduceNe, Nat.reduceAdd, UInt8.reduceOfNat, UInt16.reduceOfNat, UInt32.reduceOfNat, UInt64.reduceOfNat, UInt64.reduceToNat, UInt32.reduceToNat, UInt16.reduceToNat, UInt8.reduceToNat, Int.reduceAdd, Int.reduceSub, Int.reduceMul, Nat.reduceMul, Qp0, Ql0, Qe0, hfin]
      exact ⟨_, by rw [hzq]; exact hle8, by first | trivial | simp [hfin]⟩
set_option maxRecDepth 100000 in
theorem liftedTokenUnlike (os : Os) (started : os.Started) (H : Type) (enc : TypeId × Value → H) :
    ReturnsInHanded {} Try.checked os 4 .any (Rows.tokenUnlikeSpec.pre6 enc Try.prog Try.f4 Rows.tokenUnlikeRow.domain false) (Rows.tokenUnlikeSpec.post enc Try.prog Try.f4 false true false false) := by
  refine returnsInHanded_of_change_sized (C := Try.checked) own started (by kernel_rfl) Try.func4
    (ChangeSpec.witness6 (enc := enc) (C := Try.checked) false ⟨#[], #[.agg #[.string ⟨#[]⟩, .string ⟨#[]⟩, .int .i64 0, .int .i64 0, .int .i64 0, .slice none 0 0], .agg #[.string ⟨#[]⟩, .string ⟨#[]⟩, .int .i64 0, .int .i64 0, .int .i64 0, .slice none 0 0], .int .u16 0], []⟩ 8 (by kernel_rfl) (by kernel_rfl) (by kernel_rfl) (by kernel_rfl)) ?_
  intro W base args ds gs before hval0 hW _ hsz0 _
  have hsz : (DataW.weightsEach Try.prog (Try.f4.params.toList ++ Rows.tokenUnlikeSpec.plain.varTypes Try.prog) (ds ++ gs)).all (· ≤ reachBytes) = true := hsz0
  have hval : ∀ (j : Nat) t v, Try.f4.params[j]? = some t → args[j]? = some v → Value.okWide Try.prog W .any base t v := hval0
  have hW' := hW
  obtain ⟨p, q, hA0, hV, rfl, _, _⟩ := hW
  have hA : DataW.TrodAll enc Try.prog W 0 (fun _ => true) true Try.f4.params.toList args.toList ds p := hA0
  rw [Try.params4] at hA hval hsz
  obtain ⟨v0, v1, v2, d0, d1, d2, p0, p1, p2, rfl, rfl, rfl, h0, h1, h2⟩ := trodAll_three hA
  obtain ⟨rfl, _⟩ := trodVars_none hV
  obtain ⟨c0, A0, cap0, rfl, hcap0, hrv0⟩ := open_clb (hval 0 _ v0 rfl rfl) h0
  obtain ⟨c1, A1, cap1, rfl, hcap1, hrv1⟩ := open_clb (hval 1 _ v1 rfl rfl) h1
  obtain ⟨a2, rfl, rfl, rfl, w2⟩ := open_int Try.underlying37 (hval 2 _ v2 rfl rfl) h2
  refine (walk_TokenUnlike c0 A0 cap0 c1 A1 cap1 a2 W hcap0 hrv0 hcap1 hrv1 w2).mono fun en W' ⟨he, hb⟩ => ?_
  subst he
  exact ⟨_, rfl, law_post (tb := 4) laidOut hW' rfl rfl rfl rfl Try.underlying4 (by intro t ht; revert t; exact of_decide_eq_true (by kernel_rfl)) (by kernel_rfl) hb⟩

theorem provedTokenUnlike : Rows.TokenUnlikeSaid :=
  OpenClaim.holds_of_wide 4 Try.f4 rfl rfl rfl rfl rfl rfl rfl ⟨rfl, rfl, rfl, rfl, rfl⟩ rfl rfl rfl rfl rfl (by kernel_rfl) Try.func4 (by kernel_rfl)
    (of_decide_eq_true (by kernel_rfl)) (by unfold Func.isWrapper; first | (rw [if_pos (by decide +kernel)]; kernel_rfl) | (rw [if_neg (by decide +kernel)]; exact ⟨rfl, rfl⟩))
    (fun os started H enc _ => liftedTokenUnlike os started H enc)
#print axioms provedTokenUnlike


end Go.Proofs.Ytdlaoeepeakpeaa.TkU
