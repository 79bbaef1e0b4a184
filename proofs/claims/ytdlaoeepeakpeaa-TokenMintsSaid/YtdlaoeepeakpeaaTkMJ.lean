/- TokenMints: any claims have under any ring the token that the document says, or none. No condition. -/
import Derived.Test.YtdlaoeepeakpeaaM14TkM
import Derived.Test.YtdlaoeepeakpeaaChecked
namespace Go.Proofs.Ytdlaoeepeakpeaa.TkM
set_option linter.unusedVariables false
set_option linter.unusedSimpArgs false
open Go.ChangeShapes Go.WideShapes Go.ChangeAt Go.RowKit Base Px Wr
set_option maxRecDepth 20000 in
set_option maxHeartbeats 4000000 in
theorem walk_TokenMints (current : Int) (c : Cl) (A_c : Option Addr) (cap_c : Nat) (w : World) (hw_current : (Lit.int .i64 current).wf = true) (hcap_c : c.x.length ≤ cap_c ∧ c.x.length ≤ 9223372036854775807) (hrv_c : ∀ h, Rv w h A_c (ints c.x)) : Calls Try.prog 5 #[.int .i64 current, .agg (clL c A_c cap_c).toArray] w fun e w' => e = .returned (.bool true) ∧ Below w.heap.size w w' := by
  refine law_calls (args := [.int .i64 current, .agg (clL c A_c cap_c).toArray]) (Calls_body Try.func5 rfl _ Try.ntmps5 (by kernel_rfl) (by kernel_rfl) _ Try.results5 ?_ w (Sim.empty w))
  unfold clL
  simp -dsimp -implicitDefEqProofs (disch := first | omega | assumption | (simp only [Option.isSome_some, Qt0]; done) | (simp only [UInt64.reduceToNat, UInt32.reduceToNat, UInt8.reduceToNat, List.length_cons, List.length_nil, List.length_append, Int.toNat_natCast] <;> omega)) only [Nat.reduceLT, Nat.reduceLeDiff, Nat.reduceEqDiff, ↓reduceIte, Int.reduceLT, Int.reduceLE, Int.reduceToNat, Int.reduceEq, Int.reduceNe, Nat.reduceAdd, UInt8.reduceOfNat, UInt16.reduceOfNat, UInt32.reduceOfNat, UInt64.reduceOfNat, UInt64.reduceToNat, UInt32.reduceToNat, UInt16.reduceToNat, UInt8.reduceToNat, Int.reduceAdd, Int.reduceSub, Int.reduceMul, Nat.reduceMul, Qp0, Ql0, Qe0]
  refine fun pb hpb => ?_
  have hle_pb := (PH.Le.refl (PH.empty w)).new pb ⟨[str c.s, str c.u, .int .i64 c.e, .int .i64 c.i, .int .i64 c.k, .slice A_c c.x.length cap_c], 6⟩ hpb
  have hm_pb : ((PH.empty w).new pb ⟨[str c.s, str c.u, .int .i64 c.e, .int .i64 c.i, .int .i64 c.k, .slice A_c c.x.length cap_c], 6⟩).m pb = some ⟨[str c.s, str c.u, .int .i64 c.e, .int .i64 c.i, .int .i64 c.k, .slice A_c c.x.length cap_c], 6⟩ := by rw [PH.new_m, if_pos rfl]
  simp -dsimp -implicitDefEqProofs (disch := first | omega | assumption | (simp only [Option.isSome_some, Qt0]; done) | (simp only [UInt64.reduceToNat, UInt32.reduceToNat, UInt8.reduceToNat, List.length_cons, List.length_nil, List.length_append, Int.toNat_natCast] <;> omega)) only [Nat.reduceLT, Nat.reduceLeDiff, Nat.reduceEqDiff, ↓reduceIte, Int.reduceLT, Int.reduceLE, Int.reduceToNat, Int.reduceEq, Int.reduceNe, Nat.reduceAdd, UInt8.reduceOfNat, UInt16.reduceOfNat, UInt32.reduceOfNat, UInt64.reduceOfNat, UInt64.reduceToNat, UInt32.reduceToNat, UInt16.reduceToNat, UInt8.reduceToNat, Int.reduceAdd, Int.reduceSub, Int.reduceMul, Nat.reduceMul, Qp0, Ql0, Qe0]
  generalize (PH.empty w).new pb ⟨[str c.s, str c.u, .int .i64 c.e, .int .i64 c.i, .int .i64 c.k, .slice A_c c.x.length cap_c], 6⟩ = h0 at *
  refine (wake12 w h0).mono ?_
  rintro v h1 ⟨rfl, hl1⟩
  have hp1 := hl1.m _ _ hm_pb
  have hle1 := hle_pb.trans hl1
  by_cases hri : right [109] current
  · have hN := Lib.hid (new_right [109] current hri w h1)
    simp -dsimp -implicitDefEqProofs (disch := first | omega | assumption | (simp only [Option.isSome_some, Qt0]; done) | (simp only [UInt64.reduceToNat, UInt32.reduceToNat, UInt8.reduceToNat, List.length_cons, List.length_nil, List.length_append, Int.toNat_natCast] <;> omega)) only [Nat.reduceLT, Nat.reduceLeDiff, Nat.reduceEqDiff, ↓reduceIte, Int.reduceLT, Int.reduceLE, Int.reduceToNat, Int.reduceEq, Int.reduceNe, Nat.reduceAdd, UInt8.reduceOfNat, UInt16.reduceOfNat, UInt32.reduceOfNat, UInt64.reduceOfNat, UInt64.reduceToNat, UInt32.reduceToNat, UInt16.reduceToNat, UInt8.reduceToNat, Int.reduceAdd, Int.reduceSub, Int.reduceMul, Nat.reduceMul, Qp0, Ql0, Qe0]
    refine hN.out.mono ?_
    rintro v h2 ⟨b, rfl, hb, rfl⟩
    have hl2 := (PH.Le.refl h1).new b ⟨[str [109], .int .i64 current], 2⟩ hb
    have hmb : (h1.new b ⟨[str [109], .int .i64 current], 2⟩).m b = some ⟨[str [109], .int .i64 current], 2⟩ := by rw [PH.new_m, if_pos rfl]
    generalize h1.new b ⟨[str [109], .int .i64 current], 2⟩ = h2 at *
    have hp2 := hl2.m _ _ hp1
    have hle2 := hle1.trans hl2
    have hs_pb : rdN w h2 ⟨pb, 0, none⟩ 6 = some [str c.s, str c.u, .int .i64 c.e, .int .i64 c.i, .int .i64 c.k, .slice A_c c.x.length cap_c] := by unfold rdN; simp only [hp2]; rfl
    have hRR := rright_any [109] current w h2
    rw [decide_eq_true hri] at hRR
    have hRR := Lib.hid hRR
    have hG := great_any c A_c cap_c w h2
    unfold clL at hG
    have hG := Lib.hid hG
    simp -dsimp -implicitDefEqProofs (disch := first | omega | assumption | (simp only [Option.isSome_some, Qt0]; done) | (simp only [UInt64.reduceToNat, UInt32.reduceToNat, UInt8.reduceToNat, List.length_cons, List.length_nil, List.length_append, Int.toNat_natCast] <;> omega)) only [Nat.reduceLT, Nat.reduceLeDiff, Nat.reduceEqDiff, ↓reduceIte, Int.reduceLT, Int.reduceLE, Int.reduceToNat, Int.reduceEq, Int.reduceNe, Nat.reduceAdd, UInt8.reduceOfNat, UInt16.reduceOfNat, UInt32.reduceOfNat, UInt64.reduceOfNat, UInt64.reduceToNat, UInt32.reduceToNat, UInt16.reduceToNat, UInt8.reduceToNat, Int.reduceAdd, Int.reduceSub, Int.reduceMul, Nat.reduceMul, Qp0, Ql0, Qe0]
    refine hRR.out.mono ?_
    rintro v hq ⟨rfl, hz⟩
    obtain rfl := hz.symm
    simp -dsimp -implicitDefEqProofs (disch := first | omega | assumption | (simp only [Option.isSome_some, Qt0]; done) | (simp only [UInt64.reduceToNat, UInt32.reduceToNat, UInt8.reduceToNat, List.length_cons, List.length_nil, List.length_append, Int.toNat_natCast] <;> omega)) only [Nat.reduceLT, Nat.reduceLeDiff, Nat.reduceEqDiff, ↓reduceIte, Int.reduceLT, Int.reduceLE, Int.reduceToNat, Int.reduceEq, Int.reduceNe, Nat.reduceAdd, UInt8.reduceOfNat, UInt16.reduceOfNat, UInt32.reduceOfNat, UInt64.reduceOfNat, UInt64.reduceToNat, UInt32.reduceToNat, UInt16.reduceToNat, UInt8.reduceToNat, Int.reduceAdd, Int.reduceSub, Int.reduceMul, Nat.reduceMul, Qp0, Ql0, Qe0, hs_pb]
    refine hG.out.mono ?_
    rintro v h3 ⟨rfl, hl3⟩
    have hp3 := hl3.m _ _ hp2
    have hle3 := hle2.trans hl3
    have hmb3 := hl3.m _ _ hmb
    cases hg : greatC c
    rotate_left
    · simp -dsimp -implicitDefEqProofs (disch := first | omega | assumption | (simp only [Option.isSome_some, Qt0]; done) | (simp only [UInt64.reduceToNat, UInt32.reduceToNat, UInt8.reduceToNat, List.length_cons, List.length_nil, List.length_append, Int.toNat_natCast] <;> omega)) only [Nat.reduceLT, Nat.reduceLeDiff, Nat.reduceEqDiff, ↓reduceIte, Int.reduceLT, Int.reduceLE, Int.reduceToNat, Int.reduceEq, Int.reduceNe, Nat.reduceAdd, UInt8.reduceOfNat, UInt16.reduceOfNat, UInt32.reduceOfNat, UInt64.reduceOfNat, UInt64.reduceToNat, UInt32.reduceToNat, UInt16.reduceToNat, UInt8.reduceToNat, Int.reduceAdd, Int.reduceSub, Int.reduceMul, Nat.reduceMul, Qp0, Ql0, Qe0, hg]
      exact ⟨_, hle3, by trivial⟩
    clear hs_pb
    have hs_pb : rdN w h3 ⟨pb, 0, none⟩ 6 = some [str c.s, str c.u, .int .i64 c.e, .int .i64 c.i, .int .i64 c.k, .slice A_c c.x.length cap_c] := by unfold rdN; simp only [hp3]; rfl
    have hM := mint_any b [109] current hri w h3 hmb3 c A_c cap_c (hrv_c h3) hcap_c.1 hcap_c.2
    unfold clL at hM
    have hM := Lib.hid hM
    simp -dsimp -implicitDefEqProofs (disch := first | omega | assumption | (simp only [Option.isSome_some, Qt0]; done) | (simp only [UInt64.reduceToNat, UInt32.reduceToNat, UInt8.reduceToNat, List.length_cons, List.length_nil, List.length_append, Int.toNat_natCast] <;> omega)) only [Nat.reduceLT, Nat.reduceLeDiff, Nat.reduceEqDiff, ↓reduceIte, Int.reduceLT, Int.reduceLE, Int.reduceToNat, Int.reduceEq, Int.reduceNe, Nat.reduceAdd, UInt8.reduceOfNat, UInt16.reduceOfNat, UInt32.reduceOfNat, UInt64.reduceOfNat, UInt64.reduceToNat, UInt32.reduceToNat, UInt16.reduceToNat, UInt8.reduceToNat, Int.reduceAdd, Int.reduceSub, Int.reduceMul, Nat.reduceMul, Qp0, Ql0, Qe0, hg, hs_pb]
    refine hM.out.mono ?_
    rintro v h4 ⟨hm, hl4⟩
    have hp4 := hl4.m _ _ hp3
    have hle4 := hle3.trans hl4
    have hcr := (Chg.refl (· = pb) h4).one (b := pb) ⟨[str c.s, str c.u, .int .i64 c.e, .int .i64 c.i, .int .i64 current, .slice A_c c.x.length cap_c], 6⟩
    have hmk : (h4.new pb ⟨[str c.s, str c.u, .int .i64 c.e, .int .i64 c.i, .int .i64 current, .slice A_c c.x.length cap_c], 6⟩).m pb = some ⟨[str c.s, str c.u, .int .i64 c.e, .int .i64 c.i, .int .i64 current, .slice A_c c.x.length cap_c], 6⟩ := by rw [PH.new_m, if_pos rfl]
    have hle5 : PH.Le (PH.empty w) (h4.new pb ⟨[str c.s, str c.u, .int .i64 c.e, .int .i64 c.i, .int .i64 current, .slice A_c c.x.length cap_c], 6⟩) := hle4.new _ _ hpb
    have hT := rtok_any [109] (by decide) { c with k := current } A_c cap_c w (h4.new pb ⟨[str c.s, str c.u, .int .i64 c.e, .int .i64 c.i, .int .i64 current, .slice A_c c.x.length cap_c], 6⟩) (hrv_c _) hcap_c.1 hcap_c.2
    unfold clL at hT
    unfold MINT at hm
    clear hs_pb
    cases hr : rightC { c with k := current } with
    | true =>
      rw [hr, if_pos rfl] at hm hT
      subst hm
      have hne : decide (¬ tok (derive [109]) { c with k := current } = []) = true := decide_eq_true (by intro e; have := congrArg List.length e; rw [tok_length] at this; simp at this)
      generalize tok (derive [109]) { c with k := current } = T at *
      have hT := Lib.hid hT
      have hTT := decide_eq_true (show T = T from rfl)
      simp -dsimp -implicitDefEqProofs (disch := first | omega | assumption | (simp only [Option.isSome_some, Qt0]; done) | (simp only [UInt64.reduceToNat, UInt32.reduceToNat, UInt8.reduceToNat, List.length_cons, List.length_nil, List.length_append, Int.toNat_natCast] <;> omega)) only [Nat.reduceLT, Nat.reduceLeDiff, Nat.reduceEqDiff, ↓reduceIte, Int.reduceLT, Int.reduceLE, Int.reduceToNat, Int.reduceEq, Int.reduceNe, Nat.reduceAdd, UInt8.reduceOfNat, UInt16.reduceOfNat, UInt32.reduceOfNat, UInt64.reduceOfNat, UInt64.reduceToNat, UInt32.reduceToNat, UInt16.reduceToNat, UInt8.reduceToNat, Int.reduceAdd, Int.reduceSub, Int.reduceMul, Nat.reduceMul, Qp0, Ql0, Qe0, rd_M, rdM_some, hp4, List.set_cons_zero, List.set_cons_succ, PH.new_new, List.set_nil]
      generalize h4.new pb ⟨[str c.s, str c.u, .int .i64 c.e, .int .i64 c.i, .int .i64 current, .slice A_c c.x.length cap_c], 6⟩ = h5 at *
      have hs_pb : rdN w h5 ⟨pb, 0, none⟩ 6 = some [str c.s, str c.u, .int .i64 c.e, .int .i64 c.i, .int .i64 current, .slice A_c c.x.length cap_c] := by unfold rdN; simp only [hmk]; rfl
      simp -dsimp -implicitDefEqProofs (disch := first | omega | assumption | (simp only [Option.isSome_some, Qt0]; done) | (simp only [UInt64.reduceToNat, UInt32.reduceToNat, UInt8.reduceToNat, List.length_cons, List.length_nil, List.length_append, Int.toNat_natCast] <;> omega)) only [Nat.reduceLT, Nat.reduceLeDiff, Nat.reduceEqDiff, ↓reduceIte, Int.reduceLT, Int.reduceLE, Int.reduceToNat, Int.reduceEq, Int.reduceNe, Nat.reduceAdd, UInt8.reduceOfNat, UInt16.reduceOfNat, UInt32.reduceOfNat, UInt64.reduceOfNat, UInt64.reduceToNat, UInt32.reduceToNat, UInt16.reduceToNat, UInt8.reduceToNat, Int.reduceAdd, Int.reduceSub, Int.reduceMul, Nat.reduceMul, Qp0, Ql0, Qe0, hs_pb]
      refine hT.out.mono ?_
      rintro v h6 ⟨rfl, hl6⟩
      simp -dsimp -implicitDefEqProofs (disch := first | omega | assumption | (simp only [Option.isSome_some, Qt0]; done) | (simp only [UInt64.reduceToNat, UInt32.reduceToNat, UInt8.reduceToNat, List.length_cons, List.length_nil, List.length_append, Int.toNat_natCast] <;> omega)) only [Nat.reduceLT, Nat.reduceLeDiff, Nat.reduceEqDiff, ↓reduceIte, Int.reduceLT, Int.reduceLE, Int.reduceToNat, Int.reduceEq, Int.reduceNe, Nat.reduceAdd, UInt8.reduceOfNat, UInt16.reduceOfNat, UInt32.reduceOfNat, UInt64.reduceOfNat, UInt64.reduceToNat, UInt32.reduceToNat, UInt16.reduceToNat, UInt8.reduceToNat, Int.reduceAdd, Int.reduceSub, Int.reduceMul, Nat.reduceMul, Qp0, Ql0, Qe0, hTT, hne]
      exact ⟨_, hle5.trans hl6, by trivial⟩
    | false =>
      rw [hr, if_neg (by simp)] at hm hT
      obtain ⟨ev, e, rfl, hev, hn⟩ := hm
      have hev5 := hev.put6 hp4 (by simp) ⟨[str c.s, str c.u, .int .i64 c.e, .int .i64 c.i, .int .i64 current, .slice A_c c.x.length cap_c], 6⟩
      obtain ⟨t, x, rfl⟩ := hev.held
      have hT := Lib.hid hT
      have hTT : decide (([] : List UInt8) = []) = true := rfl
      simp -dsimp -implicitDefEqProofs (disch := first | omega | assumption | (simp only [Option.isSome_some, Qt0]; done) | (simp only [UInt64.reduceToNat, UInt32.reduceToNat, UInt8.reduceToNat, List.length_cons, List.length_nil, List.length_append, Int.toNat_natCast] <;> omega)) only [Nat.reduceLT, Nat.reduceLeDiff, Nat.reduceEqDiff, ↓reduceIte, Int.reduceLT, Int.reduceLE, Int.reduceToNat, Int.reduceEq, Int.reduceNe, Nat.reduceAdd, UInt8.reduceOfNat, UInt16.reduceOfNat, UInt32.reduceOfNat, UInt64.reduceOfNat, UInt64.reduceToNat, UInt32.reduceToNat, UInt16.reduceToNat, UInt8.reduceToNat, Int.reduceAdd, Int.reduceSub, Int.reduceMul, Nat.reduceMul, Qp0, Ql0, Qe0, rd_M, rdM_some, hp4, List.set_cons_zero, List.set_cons_succ, PH.new_new, List.set_nil]
      generalize h4.new pb ⟨[str c.s, str c.u, .int .i64 c.e, .int .i64 c.i, .int .i64 current, .slice A_c c.x.length cap_c], 6⟩ = h5 at *
      have hs_pb : rdN w h5 ⟨pb, 0, none⟩ 6 = some [str c.s, str c.u, .int .i64 c.e, .int .i64 c.i, .int .i64 current, .slice A_c c.x.length cap_c] := by unfold rdN; simp only [hmk]; rfl
      simp -dsimp -implicitDefEqProofs (disch := first | omega | assumption | (simp only [Option.isSome_some, Qt0]; done) | (simp only [UInt64.reduceToNat, UInt32.reduceToNat, UInt8.reduceToNat, List.length_cons, List.length_nil, List.length_append, Int.toNat_natCast] <;> omega)) only [Nat.reduceLT, Nat.reduceLeDiff, Nat.reduceEqDiff, ↓reduceIte, Int.reduceLT, Int.reduceLE, Int.reduceToNat, Int.reduceEq, Int.reduceNe, Nat.reduceAdd, UInt8.reduceOfNat, UInt16.reduceOfNat, UInt32.reduceOfNat, UInt64.reduceOfNat, UInt64.reduceToNat, UInt32.reduceToNat, UInt16.reduceToNat, UInt8.reduceToNat, Int.reduceAdd, Int.reduceSub, Int.reduceMul, Nat.reduceMul, Qp0, Ql0, Qe0, hs_pb]
      refine hT.out.mono ?_
      rintro v h6 ⟨rfl, hl6⟩
      have hI := Lib.hid (is_num w (hev5.more hl6) hn)
      simp -dsimp -implicitDefEqProofs (disch := first | omega | assumption | (simp only [Option.isSome_some, Qt0]; done) | (simp only [UInt64.reduceToNat, UInt32.reduceToNat, UInt8.reduceToNat, List.length_cons, List.length_nil, List.length_append, Int.toNat_natCast] <;> omega)) only [Nat.reduceLT, Nat.reduceLeDiff, Nat.reduceEqDiff, ↓reduceIte, Int.reduceLT, Int.reduceLE, Int.reduceToNat, Int.reduceEq, Int.reduceNe, Nat.reduceAdd, UInt8.reduceOfNat, UInt16.reduceOfNat, UInt32.reduceOfNat, UInt64.reduceOfNat, UInt64.reduceToNat, UInt32.reduceToNat, UInt16.reduceToNat, UInt8.reduceToNat, Int.reduceAdd, Int.reduceSub, Int.reduceMul, Nat.reduceMul, Qp0, Ql0, Qe0, hTT]
      refine hI.out.mono ?_
      rintro v hq ⟨rfl, hz⟩
      obtain rfl := hz.symm
      simp -dsimp -implicitDefEqProofs (disch := first | omega | assumption | (simp only [Option.isSome_some, Qt0]; done) | (simp only [UInt64.reduceToNat, UInt32.reduceToNat, UInt8.reduceToNat, List.length_cons, List.length_nil, List.length_append, Int.toNat_natCast] <;> omega)) only [Nat.reduceLT, Nat.reduceLeDiff, Nat.reduceEqDiff, ↓reduceIte, Int.reduceLT, Int.reduceLE, Int.reduceToNat, Int.reduceEq, Int.reduceNe, Nat.reduceAdd, UInt8.reduceOfNat, UInt16.reduceOfNat, UInt32.reduceOfNat, UInt64.reduceOfNat, UInt64.reduceToNat, UInt32.reduceToNat, UInt16.reduceToNat, UInt8.reduceToNat, Int.reduceAdd, Int.reduceSub, Int.reduceMul, Nat.reduceMul, Qp0, Ql0, Qe0]
      exact ⟨_, hle5.trans hl6, by trivial⟩
  · have hN := Lib.hid (new_wrong [109] current hri w h1)
    simp -dsimp -implicitDefEqProofs (disch := first | omega | assumption | (simp only [Option.isSome_some, Qt0]; done) | (simp only [UInt64.reduceToNat, UInt32.reduceToNat, UInt8.reduceToNat, List.length_cons, List.length_nil, List.length_append, Int.toNat_natCast] <;> omega)) only [Nat.reduceLT, Nat.reduceLeDiff, Nat.reduceEqDiff, ↓reduceIte, Int.reduceLT, Int.reduceLE, Int.reduceToNat, Int.reduceEq, Int.reduceNe, Nat.reduceAdd, UInt8.reduceOfNat, UInt16.reduceOfNat, UInt32.reduceOfNat, UInt64.reduceOfNat, UInt64.reduceToNat, UInt32.reduceToNat, UInt16.reduceToNat, UInt8.reduceToNat, Int.reduceAdd, Int.reduceSub, Int.reduceMul, Nat.reduceMul, Qp0, Ql0, Qe0]
    refine hN.out.mono ?_
    rintro v h2 ⟨b, rfl, hb, rfl⟩
    have hl2 := (PH.Le.refl h1).new b ⟨[str ringT, .int .i64 0, codeV 1], 3⟩ hb
    generalize h1.new b ⟨[str ringT, .int .i64 0, codeV 1], 3⟩ = h2 at *
    have hp2 := hl2.m _ _ hp1
    have hle2 := hle1.trans hl2
    have hs_pb : rdN w h2 ⟨pb, 0, none⟩ 6 = some [str c.s, str c.u, .int .i64 c.e, .int .i64 c.i, .int .i64 c.k, .slice A_c c.x.length cap_c] := by unfold rdN; simp only [hp2]; rfl
    have hRR := rright_any [109] current w h2
    rw [decide_eq_false hri] at hRR
    have hRR := Lib.hid hRR
    have hM := mint_nil c A_c cap_c w h2
    unfold clL at hM
    have hM := Lib.hid hM
    unfold errV
    simp -dsimp -implicitDefEqProofs (disch := first | omega | assumption | (simp only [Option.isSome_some, Qt0]; done) | (simp only [UInt64.reduceToNat, UInt32.reduceToNat, UInt8.reduceToNat, List.length_cons, List.length_nil, List.length_append, Int.toNat_natCast] <;> omega)) only [Nat.reduceLT, Nat.reduceLeDiff, Nat.reduceEqDiff, ↓reduceIte, Int.reduceLT, Int.reduceLE, Int.reduceToNat, Int.reduceEq, Int.reduceNe, Nat.reduceAdd, UInt8.reduceOfNat, UInt16.reduceOfNat, UInt32.reduceOfNat, UInt64.reduceOfNat, UInt64.reduceToNat, UInt32.reduceToNat, UInt16.reduceToNat, UInt8.reduceToNat, Int.reduceAdd, Int.reduceSub, Int.reduceMul, Nat.reduceMul, Qp0, Ql0, Qe0]
    refine hRR.out.mono ?_
    rintro v hq ⟨rfl, hz⟩
    obtain rfl := hz.symm
    simp -dsimp -implicitDefEqProofs (disch := first | omega | assumption | (simp only [Option.isSome_some, Qt0]; done) | (simp only [UInt64.reduceToNat, UInt32.reduceToNat, UInt8.reduceToNat, List.length_cons, List.length_nil, List.length_append, Int.toNat_natCast] <;> omega)) only [Nat.reduceLT, Nat.reduceLeDiff, Nat.reduceEqDiff, ↓reduceIte, Int.reduceLT, Int.reduceLE, Int.reduceToNat, Int.reduceEq, Int.reduceNe, Nat.reduceAdd, UInt8.reduceOfNat, UInt16.reduceOfNat, UInt32.reduceOfNat, UInt64.reduceOfNat, UInt64.reduceToNat, UInt32.reduceToNat, UInt16.reduceToNat, UInt8.reduceToNat, Int.reduceAdd, Int.reduceSub, Int.reduceMul, Nat.reduceMul, Qp0, Ql0, Qe0, hs_pb]
    refine hM.out.mono ?_
    rintro v h3 ⟨⟨ev, e, rfl, hev, hn⟩, hl3⟩
    have hI := Lib.hid (is_num w hev hn)
    simp -dsimp -implicitDefEqProofs (disch := first | omega | assumption | (simp only [Option.isSome_some, Qt0]; done) | (simp only [UInt64.reduceToNat, UInt32.reduceToNat, UInt8.reduceToNat, List.length_cons, List.length_nil, List.length_append, Int.toNat_natCast] <;> omega)) only [Nat.reduceLT, Nat.reduceLeDiff, Nat.reduceEqDiff, ↓reduceIte, Int.reduceLT, Int.reduceLE, Int.reduceToNat, Int.reduceEq, Int.reduceNe, Nat.reduceAdd, UInt8.reduceOfNat, UInt16.reduceOfNat, UInt32.reduceOfNat, UInt64.reduceOfNat, UInt64.reduceToNat, UInt32.reduceToNat, UInt16.reduceToNat, UInt8.reduceToNat, Int.reduceAdd, Int.reduceSub, Int.reduceMul, Nat.reduceMul, Qp0, Ql0, Qe0]
    refine hI.out.mono ?_
    rintro v hq ⟨rfl, hz⟩
    obtain rfl := hz.symm
    simp -dsimp -implicitDefEqProofs (disch := first | omega | assumption | (simp only [Option.isSome_some, Qt0]; done) | (simp only [UInt64.reduceToNat, UInt32.reduceToNat, UInt8.reduceToNat, List.length_cons, List.length_nil, List.length_append, Int.toNat_natCast] <;> omega)) only [Nat.reduceLT, Nat.reduceLeDiff, Nat.reduceEqDiff, ↓reduceIte, Int.reduceLT, Int.reduceLE, Int.reduceToNat, Int.reduceEq, Int.reduceNe, Nat.reduceAdd, UInt8.reduceOfNat, UInt16.reduceOfNat, UInt32.reduceOfNat, UInt64.reduceOfNat, UInt64.reduceToNat, UInt32.reduceToNat, UInt16.reduceToNat, UInt8.reduceToNat, Int.reduceAdd, Int.reduceSub, Int.reduceMul, Nat.reduceMul, Qp0, Ql0, Qe0]
    exact ⟨_, hle2.trans hl3, by trivial⟩
set_option maxRecDepth 100000 in
theorem liftedTokenMints (os : Os) (started : os.Started) (H : Type) (enc : TypeId × Value → H) :
    ReturnsInHanded {} Try.checked os 5 .any (Rows.tokenMintsSpec.pre6 enc Try.prog Try.f5 Rows.tokenMintsRow.domain false) (Rows.tokenMintsSpec.post enc Try.prog Try.f5 false true false false) := by
  refine returnsInHanded_of_change_sized (C := Try.checked) own started (by kernel_rfl) Try.func5
    (ChangeSpec.witness6 (enc := enc) (C := Try.checked) false ⟨#[], #[.int .i64 0, .agg #[.string ⟨#[]⟩, .string ⟨#[]⟩, .int .i64 0, .int .i64 0, .int .i64 0, .slice none 0 0]], []⟩ 8 (by kernel_rfl) (by kernel_rfl) (by kernel_rfl) (by kernel_rfl)) ?_
  intro W base args ds gs before hval0 hW _ hsz0 _
  have hsz : (DataW.weightsEach Try.prog (Try.f5.params.toList ++ Rows.tokenMintsSpec.plain.varTypes Try.prog) (ds ++ gs)).all (· ≤ reachBytes) = true := hsz0
  have hval : ∀ (j : Nat) t v, Try.f5.params[j]? = some t → args[j]? = some v → Value.okWide Try.prog W .any base t v := hval0
  have hW' := hW
  obtain ⟨p, q, hA0, hV, rfl, _, _⟩ := hW
  have hA : DataW.TrodAll enc Try.prog W 0 (fun _ => true) true Try.f5.params.toList args.toList ds p := hA0
  rw [Try.params5] at hA hval hsz
  obtain ⟨v0, v1, d0, d1, p0, p1, rfl, rfl, rfl, h0, h1⟩ := trodAll_two hA
  obtain ⟨rfl, _⟩ := trodVars_none hV
  obtain ⟨a0, rfl, rfl, rfl, w0⟩ := open_int Try.underlying3 (hval 0 _ v0 rfl rfl) h0
  obtain ⟨c1, A1, cap1, rfl, hcap1, hrv1⟩ := open_clb (hval 1 _ v1 rfl rfl) h1
  refine (walk_TokenMints a0 c1 A1 cap1 W w0 hcap1 hrv1).mono fun en W' ⟨he, hb⟩ => ?_
  subst he
  exact ⟨_, rfl, law_post (tb := 4) laidOut hW' rfl rfl rfl rfl Try.underlying4 (by intro t ht; revert t; exact of_decide_eq_true (by kernel_rfl)) (by kernel_rfl) hb⟩

theorem provedTokenMints : Rows.TokenMintsSaid :=
  OpenClaim.holds_of_wide 5 Try.f5 rfl rfl rfl rfl rfl rfl rfl ⟨rfl, rfl, rfl, rfl, rfl⟩ rfl rfl rfl rfl rfl (by kernel_rfl) Try.func5 (by kernel_rfl)
    (of_decide_eq_true (by kernel_rfl)) (by unfold Func.isWrapper; first | (rw [if_pos (by decide +kernel)]; kernel_rfl) | (rw [if_neg (by decide +kernel)]; exact ⟨rfl, rfl⟩))
    (fun os started H enc _ => liftedTokenMints os started H enc)
#print axioms provedTokenMints


end Go.Proofs.Ytdlaoeepeakpeaa.TkM
