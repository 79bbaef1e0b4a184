/- TokenLives: a token is taken by rings of its key's number, of two more, and of fewer; by later ones it is not. No condition. -/
import Derived.Test.YtdlaoeepeakpeaaM11A
import Derived.Test.YtdlaoeepeakpeaaM8A
import Derived.Test.YtdlaoeepeakpeaaChecked
namespace Go.Proofs.Ytdlaoeepeakpeaa.TkL
set_option linter.unusedVariables false
set_option linter.unusedSimpArgs false
open Go.ChangeShapes Go.WideShapes Go.ChangeAt Go.RowKit Base Px Wr
set_option maxRecDepth 20000 in
set_option maxHeartbeats 4000000 in
theorem walk_TokenLives (c : Cl) (A_c : Option Addr) (cap_c : Nat) (made : Int) (now : Int) (w : World) (hcap_c : c.x.length ≤ cap_c ∧ c.x.length ≤ 9223372036854775807) (hrv_c : ∀ h, Rv w h A_c (ints c.x)) (hw_made : (Lit.int .u16 made).wf = true) (hw_now : (Lit.int .u16 now).wf = true) : Calls Try.prog 6 #[.agg (clL c A_c cap_c).toArray, .int .u16 made, .int .u16 now] w fun e w' => e = .returned (.bool true) ∧ Below w.heap.size w w' := by
  refine law_calls (args := [.agg (clL c A_c cap_c).toArray, .int .u16 made, .int .u16 now]) (Calls_body Try.func6 rfl _ Try.ntmps6 (by kernel_rfl) (by kernel_rfl) _ Try.results6 ?_ w (Sim.empty w))
  obtain ⟨mu, rfl⟩ := u16_lit hw_made
  obtain ⟨nu, rfl⟩ := u16_lit hw_now
  have hmu := mu.toNat_lt
  have hnu := nu.toNat_lt
  unfold clL
  simp -dsimp -implicitDefEqProofs (disch := first | omega | assumption | (simp only [Option.isSome_some, Qt0]; done) | (simp only [UInt64.reduceToNat, UInt32.reduceToNat, UInt8.reduceToNat, List.length_cons, List.length_nil, List.length_append, Int.toNat_natCast] <;> omega)) only [Nat.reduceLT, Nat.reduceLeDiff, Nat.reduceEqDiff, ↓reduceIte, Int.reduceLT, Int.reduceLE, Int.reduceToNat, Int.reduceEq, Int.reduceNe, Nat.reduceAdd, UInt8.reduceOfNat, UInt16.reduceOfNat, UInt32.reduceOfNat, UInt64.reduceOfNat, UInt64.reduceToNat, UInt32.reduceToNat, UInt16.reduceToNat, UInt8.reduceToNat, Int.reduceAdd, Int.reduceSub, Int.reduceMul, Nat.reduceMul, Qp0, Ql0, Qe0]
  refine fun pb hpb => ?_
  have hle_pb := (PH.Le.refl (PH.empty w)).new pb ⟨[str c.s, str c.u, .int .i64 c.e, .int .i64 c.i, .int .i64 c.k, .slice A_c c.x.length cap_c], 6⟩ hpb
  have hm_pb : ((PH.empty w).new pb ⟨[str c.s, str c.u, .int .i64 c.e, .int .i64 c.i, .int .i64 c.k, .slice A_c c.x.length cap_c], 6⟩).m pb = some ⟨[str c.s, str c.u, .int .i64 c.e, .int .i64 c.i, .int .i64 c.k, .slice A_c c.x.length cap_c], 6⟩ := by rw [PH.new_m, if_pos rfl]
  simp -dsimp -implicitDefEqProofs (disch := first | omega | assumption | (simp only [Option.isSome_some, Qt0]; done) | (simp only [UInt64.reduceToNat, UInt32.reduceToNat, UInt8.reduceToNat, List.length_cons, List.length_nil, List.length_append, Int.toNat_natCast] <;> omega)) only [Nat.reduceLT, Nat.reduceLeDiff, Nat.reduceEqDiff, ↓reduceIte, Int.reduceLT, Int.reduceLE, Int.reduceToNat, Int.reduceEq, Int.reduceNe, Nat.reduceAdd, UInt8.reduceOfNat, UInt16.reduceOfNat, UInt32.reduceOfNat, UInt64.reduceOfNat, UInt64.reduceToNat, UInt32.reduceToNat, UInt16.reduceToNat, UInt8.reduceToNat, Int.reduceAdd, Int.reduceSub, Int.reduceMul, Nat.reduceMul, Qp0, Ql0, Qe0]
  generalize (PH.empty w).new pb ⟨[str c.s, str c.u, .int .i64 c.e, .int .i64 c.i, .int .i64 c.k, .slice A_c c.x.length cap_c], 6⟩ = h0 at *
  refine (wake12 w h0).mono ?_
  rintro v h1 ⟨rfl, hl1⟩
  have hp1 := hl1.m _ _ hm_pb
  have hle1 := hle_pb.trans hl1
  have hri : right [109] (mu.toNat : Int) := ⟨by decide, by decide, by omega, by omega⟩
  have hN := Lib.hid (new_right [109] (mu.toNat : Int) hri w h1)
  simp -dsimp -implicitDefEqProofs (disch := first | omega | assumption | (simp only [Option.isSome_some, Qt0]; done) | (simp only [UInt64.reduceToNat, UInt32.reduceToNat, UInt8.reduceToNat, List.length_cons, List.length_nil, List.length_append, Int.toNat_natCast] <;> omega)) only [Nat.reduceLT, Nat.reduceLeDiff, Nat.reduceEqDiff, ↓reduceIte, Int.reduceLT, Int.reduceLE, Int.reduceToNat, Int.reduceEq, Int.reduceNe, Nat.reduceAdd, UInt8.reduceOfNat, UInt16.reduceOfNat, UInt32.reduceOfNat, UInt64.reduceOfNat, UInt64.reduceToNat, UInt32.reduceToNat, UInt16.reduceToNat, UInt8.reduceToNat, Int.reduceAdd, Int.reduceSub, Int.reduceMul, Nat.reduceMul, Qp0, Ql0, Qe0]
  refine hN.out.mono ?_
  rintro v h2 ⟨b, rfl, hb_b, rfl⟩
  have hl_b := (PH.Le.refl h1).new b ⟨[str [109], .int .i64 (mu.toNat : Int)], 2⟩ hb_b
  have hm_b : (h1.new b ⟨[str [109], .int .i64 (mu.toNat : Int)], 2⟩).m b = some ⟨[str [109], .int .i64 (mu.toNat : Int)], 2⟩ := by rw [PH.new_m, if_pos rfl]
  generalize h1.new b ⟨[str [109], .int .i64 (mu.toNat : Int)], 2⟩ = h2 at *

  have hp2 := hl_b.m _ _ hp1
  have hle2 := hle1.trans hl_b
  have hs_pb : rdN w h2 ⟨pb, 0, none⟩ 6 = some [str c.s, str c.u, .int .i64 c.e, .int .i64 c.i, .int .i64 c.k, .slice A_c c.x.length cap_c] := by unfold rdN; simp only [hp2]; rfl
  have hM := mint_any b [109] (mu.toNat : Int) hri w h2 hm_b c A_c cap_c (hrv_c h2) hcap_c.1 hcap_c.2
  unfold clL at hM
  have hM := Lib.hid hM
  simp -dsimp -implicitDefEqProofs (disch := first | omega | assumption | (simp only [Option.isSome_some, Qt0]; done) | (simp only [UInt64.reduceToNat, UInt32.reduceToNat, UInt8.reduceToNat, List.length_cons, List.length_nil, List.length_append, Int.toNat_natCast] <;> omega)) only [Nat.reduceLT, Nat.reduceLeDiff, Nat.reduceEqDiff, ↓reduceIte, Int.reduceLT, Int.reduceLE, Int.reduceToNat, Int.reduceEq, Int.reduceNe, Nat.reduceAdd, UInt8.reduceOfNat, UInt16.reduceOfNat, UInt32.reduceOfNat, UInt64.reduceOfNat, UInt64.reduceToNat, UInt32.reduceToNat, UInt16.reduceToNat, UInt8.reduceToNat, Int.reduceAdd, Int.reduceSub, Int.reduceMul, Nat.reduceMul, Qp0, Ql0, Qe0, hs_pb]
  refine hM.out.mono ?_
  rintro v h3 ⟨hm, hl3⟩
  have hp3 := hl3.m _ _ hp2
  have hle3 := hle2.trans hl3
  clear hs_pb
  have hs_pb : rdN w h3 ⟨pb, 0, none⟩ 6 = some [str c.s, str c.u, .int .i64 c.e, .int .i64 c.i, .int .i64 c.k, .slice A_c c.x.length cap_c] := by unfold rdN; simp only [hp3]; rfl
  have hG := great_any c A_c cap_c w h3
  unfold clL at hG
  have hG := Lib.hid hG
  unfold MINT at hm
  cases hr : rightC { c with k := (mu.toNat : Int) } with
  | false =>
    rw [hr, if_neg (by simp)] at hm
    obtain ⟨ev, e, rfl, hev, hn⟩ := hm
    obtain ⟨t, x, rfl⟩ := hev.held
    simp -dsimp -implicitDefEqProofs (disch := first | omega | assumption | (simp only [Option.isSome_some, Qt0]; done) | (simp only [UInt64.reduceToNat, UInt32.reduceToNat, UInt8.reduceToNat, List.length_cons, List.length_nil, List.length_append, Int.toNat_natCast] <;> omega)) only [Nat.reduceLT, Nat.reduceLeDiff, Nat.reduceEqDiff, ↓reduceIte, Int.reduceLT, Int.reduceLE, Int.reduceToNat, Int.reduceEq, Int.reduceNe, Nat.reduceAdd, UInt8.reduceOfNat, UInt16.reduceOfNat, UInt32.reduceOfNat, UInt64.reduceOfNat, UInt64.reduceToNat, UInt32.reduceToNat, UInt16.reduceToNat, UInt8.reduceToNat, Int.reduceAdd, Int.reduceSub, Int.reduceMul, Nat.reduceMul, Qp0, Ql0, Qe0, hs_pb]
    refine hG.out.mono ?_
    rintro v h4 ⟨rfl, hl4⟩
    cases hg : greatC c
    · simp -dsimp -implicitDefEqProofs (disch := first | omega | assumption | (simp only [Option.isSome_some, Qt0]; done) | (simp only [UInt64.reduceToNat, UInt32.reduceToNat, UInt8.reduceToNat, List.length_cons, List.length_nil, List.length_append, Int.toNat_natCast] <;> omega)) only [Nat.reduceLT, Nat.reduceLeDiff, Nat.reduceEqDiff, ↓reduceIte, Int.reduceLT, Int.reduceLE, Int.reduceToNat, Int.reduceEq, Int.reduceNe, Nat.reduceAdd, UInt8.reduceOfNat, UInt16.reduceOfNat, UInt32.reduceOfNat, UInt64.reduceOfNat, UInt64.reduceToNat, UInt32.reduceToNat, UInt16.reduceToNat, UInt8.reduceToNat, Int.reduceAdd, Int.reduceSub, Int.reduceMul, Nat.reduceMul, Qp0, Ql0, Qe0, hg]
      exact ⟨_, hle3.trans hl4, by trivial⟩
    · simp -dsimp -implicitDefEqProofs (disch := first | omega | assumption | (simp only [Option.isSome_some, Qt0]; done) | (simp only [UInt64.reduceToNat, UInt32.reduceToNat, UInt8.reduceToNat, List.length_cons, List.length_nil, List.length_append, Int.toNat_natCast] <;> omega)) only [Nat.reduceLT, Nat.reduceLeDiff, Nat.reduceEqDiff, ↓reduceIte, Int.reduceLT, Int.reduceLE, Int.reduceToNat, Int.reduceEq, Int.reduceNe, Nat.reduceAdd, UInt8.reduceOfNat, UInt16.reduceOfNat, UInt32.reduceOfNat, UInt64.reduceOfNat, UInt64.reduceToNat, UInt32.reduceToNat, UInt16.reduceToNat, UInt8.reduceToNat, Int.reduceAdd, Int.reduceSub, Int.reduceMul, Nat.reduceMul, Qp0, Ql0, Qe0, hg]
      exact ⟨_, hle3.trans hl4, by trivial⟩
  | true =>
    rw [hr, if_pos rfl] at hm
    subst hm
    have hlen := tok_length (derive [109]) { c with k := (mu.toNat : Int) }
    have hbl := bytesC_le hr
    have hT : (tok (derive [109]) { c with k := (mu.toNat : Int) }).length ≤ 4000000 := by omega
    obtain ⟨T, hTT⟩ : ∃ T, tok (derive [109]) { c with k := (mu.toNat : Int) } = T := ⟨_, rfl⟩
    rw [hTT] at hT
    rw [hTT]
    simp -dsimp -implicitDefEqProofs (disch := first | omega | assumption | (simp only [Option.isSome_some, Qt0]; done) | (simp only [UInt64.reduceToNat, UInt32.reduceToNat, UInt8.reduceToNat, List.length_cons, List.length_nil, List.length_append, Int.toNat_natCast] <;> omega)) only [Nat.reduceLT, Nat.reduceLeDiff, Nat.reduceEqDiff, ↓reduceIte, Int.reduceLT, Int.reduceLE, Int.reduceToNat, Int.reduceEq, Int.reduceNe, Nat.reduceAdd, UInt8.reduceOfNat, UInt16.reduceOfNat, UInt32.reduceOfNat, UInt64.reduceOfNat, UInt64.reduceToNat, UInt32.reduceToNat, UInt16.reduceToNat, UInt8.reduceToNat, Int.reduceAdd, Int.reduceSub, Int.reduceMul, Nat.reduceMul, Qp0, Ql0, Qe0, hs_pb]
    refine hG.out.mono ?_
    rintro v h4 ⟨rfl, hl4⟩
    have hp4 := hl4.m _ _ hp3
    have hle4 := hle3.trans hl4
    cases hg : greatC c
    rotate_left
    · simp -dsimp -implicitDefEqProofs (disch := first | omega | assumption | (simp only [Option.isSome_some, Qt0]; done) | (simp only [UInt64.reduceToNat, UInt32.reduceToNat, UInt8.reduceToNat, List.length_cons, List.length_nil, List.length_append, Int.toNat_natCast] <;> omega)) only [Nat.reduceLT, Nat.reduceLeDiff, Nat.reduceEqDiff, ↓reduceIte, Int.reduceLT, Int.reduceLE, Int.reduceToNat, Int.reduceEq, Int.reduceNe, Nat.reduceAdd, UInt8.reduceOfNat, UInt16.reduceOfNat, UInt32.reduceOfNat, UInt64.reduceOfNat, UInt64.reduceToNat, UInt32.reduceToNat, UInt16.reduceToNat, UInt8.reduceToNat, Int.reduceAdd, Int.reduceSub, Int.reduceMul, Nat.reduceMul, Qp0, Ql0, Qe0, hg]
      exact ⟨_, hle4, by trivial⟩
    have hri2 : right [109] (nu.toNat : Int) := ⟨by decide, by decide, by omega, by omega⟩
    have hN2 := Lib.hid (new_right [109] (nu.toNat : Int) hri2 w h4)
    simp -dsimp -implicitDefEqProofs (disch := first | omega | assumption | (simp only [Option.isSome_some, Qt0]; done) | (simp only [UInt64.reduceToNat, UInt32.reduceToNat, UInt8.reduceToNat, List.length_cons, List.length_nil, List.length_append, Int.toNat_natCast] <;> omega)) only [Nat.reduceLT, Nat.reduceLeDiff, Nat.reduceEqDiff, ↓reduceIte, Int.reduceLT, Int.reduceLE, Int.reduceToNat, Int.reduceEq, Int.reduceNe, Nat.reduceAdd, UInt8.reduceOfNat, UInt16.reduceOfNat, UInt32.reduceOfNat, UInt64.reduceOfNat, UInt64.reduceToNat, UInt32.reduceToNat, UInt16.reduceToNat, UInt8.reduceToNat, Int.reduceAdd, Int.reduceSub, Int.reduceMul, Nat.reduceMul, Qp0, Ql0, Qe0, hg]
    refine hN2.out.mono ?_
    rintro v h5 ⟨b2, rfl, hb_b2, rfl⟩
    have hl_b2 := (PH.Le.refl h4).new b2 ⟨[str [109], .int .i64 (nu.toNat : Int)], 2⟩ hb_b2
    have hm_b2 : (h4.new b2 ⟨[str [109], .int .i64 (nu.toNat : Int)], 2⟩).m b2 = some ⟨[str [109], .int .i64 (nu.toNat : Int)], 2⟩ := by rw [PH.new_m, if_pos rfl]
    generalize h4.new b2 ⟨[str [109], .int .i64 (nu.toNat : Int)], 2⟩ = h5 at *

    have hp5 := hl_b2.m _ _ hp4
    have hle5 := hle4.trans hl_b2
    have hR := tRead_any (.pointer (some ⟨b2, 0, none⟩)) (alive (nu.toNat : Int)) (derive [109]) T hT w h5 (key_ring b2 [109] (nu.toNat : Int) hri2 w h5 hm_b2)
    have hR := Lib.hid hR
    simp -dsimp -implicitDefEqProofs (disch := first | omega | assumption | (simp only [Option.isSome_some, Qt0]; done) | (simp only [UInt64.reduceToNat, UInt32.reduceToNat, UInt8.reduceToNat, List.length_cons, List.length_nil, List.length_append, Int.toNat_natCast] <;> omega)) only [Nat.reduceLT, Nat.reduceLeDiff, Nat.reduceEqDiff, ↓reduceIte, Int.reduceLT, Int.reduceLE, Int.reduceToNat, Int.reduceEq, Int.reduceNe, Nat.reduceAdd, UInt8.reduceOfNat, UInt16.reduceOfNat, UInt32.reduceOfNat, UInt64.reduceOfNat, UInt64.reduceToNat, UInt32.reduceToNat, UInt16.reduceToNat, UInt8.reduceToNat, Int.reduceAdd, Int.reduceSub, Int.reduceMul, Nat.reduceMul, Qp0, Ql0, Qe0]
    refine hR.out.mono ?_
    rintro v h6 ⟨hrd, hl6⟩
    have hp6 := hl6.m _ _ hp5
    have hle6 := hle5.trans hl6
    by_cases hlate : (mu.toNat : Int) + 2 < (nu.toNat : Int)
    · have hno : ∀ d, ¬ IsT (alive (nu.toNat : Int)) (derive [109]) T d := fun d hd => by
        have hdc := tok_inj hd.1 hr (hd.2.2.symm.trans hTT.symm)
        have hal := hd.2.1
        rw [hdc] at hal
        have := hal.2.2
        simp only at this
        omega
      obtain ⟨be, t, x, rfl, hbe⟩ := RDO_no hrd hno
      rw [clz_eq]
      unfold errV
      simp -dsimp -implicitDefEqProofs (disch := first | omega | assumption | (simp only [Option.isSome_some, Qt0]; done) | (simp only [UInt64.reduceToNat, UInt32.reduceToNat, UInt8.reduceToNat, List.length_cons, List.length_nil, List.length_append, Int.toNat_natCast] <;> omega)) only [Nat.reduceLT, Nat.reduceLeDiff, Nat.reduceEqDiff, ↓reduceIte, Int.reduceLT, Int.reduceLE, Int.reduceToNat, Int.reduceEq, Int.reduceNe, Nat.reduceAdd, UInt8.reduceOfNat, UInt16.reduceOfNat, UInt32.reduceOfNat, UInt64.reduceOfNat, UInt64.reduceToNat, UInt32.reduceToNat, UInt16.reduceToNat, UInt8.reduceToNat, Int.reduceAdd, Int.reduceSub, Int.reduceMul, Nat.reduceMul, Qp0, Ql0, Qe0]
      refine fun cb hcb => ?_
      have hz_cb := allOne_of [str [], str [], .int .i64 0, .int .i64 0, .int .i64 0, .slice none 0 0] rfl
      have hl_cb := (PH.Le.refl h6).new cb ⟨[str [], str [], .int .i64 0, .int .i64 0, .int .i64 0, .slice none 0 0], 6⟩ hcb
      have hm_cb : (h6.new cb ⟨[str [], str [], .int .i64 0, .int .i64 0, .int .i64 0, .slice none 0 0], 6⟩).m cb = some ⟨[str [], str [], .int .i64 0, .int .i64 0, .int .i64 0, .slice none 0 0], 6⟩ := by rw [PH.new_m, if_pos rfl]
      simp -dsimp -implicitDefEqProofs (disch := first | omega | assumption | (simp only [Option.isSome_some, Qt0]; done) | (simp only [UInt64.reduceToNat, UInt32.reduceToNat, UInt8.reduceToNat, List.length_cons, List.length_nil, List.length_append, Int.toNat_natCast] <;> omega)) only [Nat.reduceLT, Nat.reduceLeDiff, Nat.reduceEqDiff, ↓reduceIte, Int.reduceLT, Int.reduceLE, Int.reduceToNat, Int.reduceEq, Int.reduceNe, Nat.reduceAdd, UInt8.reduceOfNat, UInt16.reduceOfNat, UInt32.reduceOfNat, UInt64.reduceOfNat, UInt64.reduceToNat, UInt32.reduceToNat, UInt16.reduceToNat, UInt8.reduceToNat, Int.reduceAdd, Int.reduceSub, Int.reduceMul, Nat.reduceMul, Qp0, Ql0, Qe0, hz_cb, PH.new_new, List.take_zero, List.drop_succ_cons, List.drop_zero, List.drop_nil, List.nil_append, List.append_nil, rdN_new, List.take_succ_cons, ite_true]
      generalize h6.new cb ⟨[str [], str [], .int .i64 0, .int .i64 0, .int .i64 0, .slice none 0 0], 6⟩ = h7 at *

      have hI := is_pair be tokenT (T.length : Int) 9 t x w h7 (hl_cb.m _ _ hbe)
      unfold errV codeV at hI
      have hI := Lib.hid hI
      refine hI.out.mono ?_
      rintro v h8 ⟨rfl, hl8⟩
      simp -dsimp -implicitDefEqProofs (disch := first | omega | assumption | (simp only [Option.isSome_some, Qt0]; done) | (simp only [UInt64.reduceToNat, UInt32.reduceToNat, UInt8.reduceToNat, List.length_cons, List.length_nil, List.length_append, Int.toNat_natCast] <;> omega)) only [Nat.reduceLT, Nat.reduceLeDiff, Nat.reduceEqDiff, ↓reduceIte, Int.reduceLT, Int.reduceLE, Int.reduceToNat, Int.reduceEq, Int.reduceNe, Nat.reduceAdd, UInt8.reduceOfNat, UInt16.reduceOfNat, UInt32.reduceOfNat, UInt64.reduceOfNat, UInt64.reduceToNat, UInt32.reduceToNat, UInt16.reduceToNat, UInt8.reduceToNat, Int.reduceAdd, Int.reduceSub, Int.reduceMul, Nat.reduceMul, Qp0, Ql0, Qe0]
      exact ⟨_, (hle6.trans hl_cb).trans hl8, by trivial⟩
    · rw [← hTT] at hrd
      obtain ⟨A', cap', rfl, hcap', hrv', hfr⟩ := RDO_tok hrd hr ⟨by simp only; omega, by simp only; omega, by simp only; omega⟩
      have hx := trim_len (rightC_iff.1 hr).2.2.2.2.2.2.2
      simp only at hx hcap' hrv'
      unfold clL
      simp only
      simp -dsimp -implicitDefEqProofs (disch := first | omega | assumption | (simp only [Option.isSome_some, Qt0]; done) | (simp only [UInt64.reduceToNat, UInt32.reduceToNat, UInt8.reduceToNat, List.length_cons, List.length_nil, List.length_append, Int.toNat_natCast] <;> omega)) only [Nat.reduceLT, Nat.reduceLeDiff, Nat.reduceEqDiff, ↓reduceIte, Int.reduceLT, Int.reduceLE, Int.reduceToNat, Int.reduceEq, Int.reduceNe, Nat.reduceAdd, UInt8.reduceOfNat, UInt16.reduceOfNat, UInt32.reduceOfNat, UInt64.reduceOfNat, UInt64.reduceToNat, UInt32.reduceToNat, UInt16.reduceToNat, UInt8.reduceToNat, Int.reduceAdd, Int.reduceSub, Int.reduceMul, Nat.reduceMul, Qp0, Ql0, Qe0]
      refine fun cb hcb => ?_
      have hrc_pb : (pb = cb) = False := eq_false (by have := h6.lt _ _ hp6; omega)
      have hz_cb := allOne_of [str c.s, str c.u, .int .i64 c.e, .int .i64 c.i, .int .i64 (mu.toNat : Int), .slice A' c.x.length cap'] rfl
      have hl_cb := (PH.Le.refl h6).new cb ⟨[str c.s, str c.u, .int .i64 c.e, .int .i64 c.i, .int .i64 (mu.toNat : Int), .slice A' c.x.length cap'], 6⟩ hcb
      have hm_cb : (h6.new cb ⟨[str c.s, str c.u, .int .i64 c.e, .int .i64 c.i, .int .i64 (mu.toNat : Int), .slice A' c.x.length cap'], 6⟩).m cb = some ⟨[str c.s, str c.u, .int .i64 c.e, .int .i64 c.i, .int .i64 (mu.toNat : Int), .slice A' c.x.length cap'], 6⟩ := by rw [PH.new_m, if_pos rfl]
      simp -dsimp -implicitDefEqProofs (disch := first | omega | assumption | (simp only [Option.isSome_some, Qt0]; done) | (simp only [UInt64.reduceToNat, UInt32.reduceToNat, UInt8.reduceToNat, List.length_cons, List.length_nil, List.length_append, Int.toNat_natCast] <;> omega)) only [Nat.reduceLT, Nat.reduceLeDiff, Nat.reduceEqDiff, ↓reduceIte, Int.reduceLT, Int.reduceLE, Int.reduceToNat, Int.reduceEq, Int.reduceNe, Nat.reduceAdd, UInt8.reduceOfNat, UInt16.reduceOfNat, UInt32.reduceOfNat, UInt64.reduceOfNat, UInt64.reduceToNat, UInt32.reduceToNat, UInt16.reduceToNat, UInt8.reduceToNat, Int.reduceAdd, Int.reduceSub, Int.reduceMul, Nat.reduceMul, Qp0, Ql0, Qe0, hz_cb, PH.new_new, List.take_zero, List.drop_succ_cons, List.drop_zero, List.drop_nil, List.nil_append, List.append_nil, rdN_new, List.take_succ_cons, ite_true, hrc_pb, hp6, List.set_cons_zero, List.set_cons_succ, PH.new_new, List.set_nil]
      generalize h6.new cb ⟨[str c.s, str c.u, .int .i64 c.e, .int .i64 c.i, .int .i64 (mu.toNat : Int), .slice A' c.x.length cap'], 6⟩ = h7 at *

      have hp7 := hl_cb.m _ _ hp6
      have hpc : pb ≠ cb := by have := h6.lt _ _ hp6; omega
      have hA1 : rdN w (h7.new pb ⟨[str c.s, str c.u, .int .i64 c.e, .int .i64 c.i, .int .i64 (mu.toNat : Int), .slice A_c c.x.length cap_c], 6⟩) ⟨pb, 0, none⟩ 6 = some [str c.s, str c.u, .int .i64 c.e, .int .i64 c.i, .int .i64 (mu.toNat : Int), .slice A_c c.x.length cap_c] := by rw [rdN_new]; rfl
      have hA2 : rdN w (h7.new pb ⟨[str c.s, str c.u, .int .i64 c.e, .int .i64 c.i, .int .i64 (mu.toNat : Int), .slice A_c c.x.length cap_c], 6⟩) ⟨cb, 0, none⟩ 6 = some [str c.s, str c.u, .int .i64 c.e, .int .i64 c.i, .int .i64 (mu.toNat : Int), .slice A' c.x.length cap'] := by
        unfold rdN
        simp only [PH.new_m, if_neg hpc.symm, hm_cb]
        rfl
      have hrv8 : Rv w (h7.new pb ⟨[str c.s, str c.u, .int .i64 c.e, .int .i64 c.i, .int .i64 (mu.toNat : Int), .slice A_c c.x.length cap_c], 6⟩) A' (ints c.x) := (hrv'.more hl_cb).chg (F := (· = pb)) ((Chg.refl _ _).one _) (fun a ea e => by
        have h1 := hfr a ea
        have h2 := h5.lt _ _ hp5
        omega)
      have hS := sameC_any w (h7.new pb ⟨[str c.s, str c.u, .int .i64 c.e, .int .i64 c.i, .int .i64 (mu.toNat : Int), .slice A_c c.x.length cap_c], 6⟩) { c with k := (mu.toNat : Int) } { c with k := (mu.toNat : Int) } A_c A' cap_c cap' (hrv_c _) hrv8 hcap_c.1 hcap' (by simp only; omega)
      rw [sameC_iff.2 rfl] at hS
      unfold clL at hS
      simp only at hS
      have hS := Lib.hid hS
      have hle8 := (hle6.trans hl_cb).new pb ⟨[str c.s, str c.u, .int .i64 c.e, .int .i64 c.i, .int .i64 (mu.toNat : Int), .slice A_c c.x.length cap_c], 6⟩ hpb
      generalize h7.new pb ⟨[str c.s, str c.u, .int .i64 c.e, .int .i64 c.i, .int .i64 (mu.toNat : Int), .slice A_c c.x.length cap_c], 6⟩ = h8 at *
      simp -dsimp -implicitDefEqProofs (disch := first | omega | assumption | (simp only [Option.isSome_some, Qt0]; done) | (simp only [UInt64.reduceToNat, UInt32.reduceToNat, UInt8.reduceToNat, List.length_cons, List.length_nil, List.length_append, Int.toNat_natCast] <;> omega)) only [Nat.reduceLT, Nat.reduceLeDiff, Nat.reduceEqDiff, ↓reduceIte, Int.reduceLT, Int.reduceLE, Int.reduceToNat, Int.reduceEq, Int.reduceNe, Nat.reduceAdd, UInt8.reduceOfNat, UInt16.reduceOfNat, UInt32.reduceOfNat, UInt64.reduceOfNat, UInt64.reduceToNat, UInt32.reduceToNat, UInt16.reduceToNat, UInt8.reduceToNat, Int.reduceAdd, Int.reduceSub, Int.reduceMul, Nat.reduceMul, Qp0, Ql0, Qe0, hA1, hA2]
      refine hS.out.mono ?_
      rintro v hq ⟨rfl, hzq⟩
      simp -dsimp -implicitDefEqProofs (disch := first | omega | assumption | (simp only [Option.isSome_some, Qt0]; done) | (simp only [UInt64.reduceToNat, UInt32.reduceToNat, UInt8.reduceToNat, List.length_cons, List.length_nil, List.length_append, Int.toNat_natCast] <;> omega)) only [Nat.reduceLT, Nat.reduceLeDiff, Nat.reduceEqDiff, ↓reduceIte, Int.reduceLT, Int.reduceLE, Int.reduceToNat, Int.reduceEq, Int.reduceNe, Nat.reduceAdd, UInt8.reduceOfNat, UInt16.reduceOfNat, UInt32.reduceOfNat, UInt64.reduceOfNat, UInt64.reduceToNat, UInt32.reduceToNat, UInt16.reduceToNat, UInt8.reduceToNat, Int.reduceAdd, Int.reduceSub, Int.reduceMul, Nat.reduceMul, Qp0, Ql0, Qe0]
      exact ⟨_, by rw [hzq]; exact hle8, by trivial⟩
set_option maxRecDepth 100000 in
theorem liftedTokenLives (os : Os) (started : os.Started) (H : Type) (enc : TypeId × Value → H) :
    ReturnsInHanded {} Try.checked os 6 .any (Rows.tokenLivesSpec.pre6 enc Try.prog Try.f6 Rows.tokenLivesRow.domain false) (Rows.tokenLivesSpec.post enc Try.prog Try.f6 false true false false) := by
  refine returnsInHanded_of_change_sized (C := Try.checked) own started (by kernel_rfl) Try.func6
    (ChangeSpec.witness6 (enc := enc) (C := Try.checked) false ⟨#[], #[.agg #[.string ⟨#[]⟩, .string ⟨#[]⟩, .int .i64 0, .int .i64 0, .int .i64 0, .slice none 0 0], .int .u16 0, .int .u16 0], []⟩ 8 (by kernel_rfl) (by kernel_rfl) (by kernel_rfl) (by kernel_rfl)) ?_
  intro W base args ds gs before hval0 hW _ hsz0 _
  have hsz : (DataW.weightsEach Try.prog (Try.f6.params.toList ++ Rows.tokenLivesSpec.plain.varTypes Try.prog) (ds ++ gs)).all (· ≤ reachBytes) = true := hsz0
  have hval : ∀ (j : Nat) t v, Try.f6.params[j]? = some t → args[j]? = some v → Value.okWide Try.prog W .any base t v := hval0
  have hW' := hW
  obtain ⟨p, q, hA0, hV, rfl, _, _⟩ := hW
  have hA : DataW.TrodAll enc Try.prog W 0 (fun _ => true) true Try.f6.params.toList args.toList ds p := hA0
  rw [Try.params6] at hA hval hsz
  obtain ⟨v0, v1, v2, d0, d1, d2, p0, p1, p2, rfl, rfl, rfl, h0, h1, h2⟩ := trodAll_three hA
  obtain ⟨rfl, _⟩ := trodVars_none hV
  obtain ⟨c0, A0, cap0, rfl, hcap0, hrv0⟩ := open_clb (hval 0 _ v0 rfl rfl) h0
  obtain ⟨a1, rfl, rfl, rfl, w1⟩ := open_int Try.underlying37 (hval 1 _ v1 rfl rfl) h1
  obtain ⟨a2, rfl, rfl, rfl, w2⟩ := open_int Try.underlying37 (hval 2 _ v2 rfl rfl) h2
  refine (walk_TokenLives c0 A0 cap0 a1 a2 W hcap0 hrv0 w1 w2).mono fun en W' ⟨he, hb⟩ => ?_
  subst he
  exact ⟨_, rfl, law_post (tb := 4) laidOut hW' rfl rfl rfl rfl Try.underlying4 (by intro t ht; revert t; exact of_decide_eq_true (by kernel_rfl)) (by kernel_rfl) hb⟩

theorem provedTokenLives : Rows.TokenLivesSaid :=
  OpenClaim.holds_of_wide 6 Try.f6 rfl rfl rfl rfl rfl rfl rfl ⟨rfl, rfl, rfl, rfl, rfl⟩ rfl rfl rfl rfl rfl (by kernel_rfl) Try.func6 (by kernel_rfl)
    (of_decide_eq_true (by kernel_rfl)) (by unfold Func.isWrapper; first | (rw [if_pos (by decide +kernel)]; kernel_rfl) | (rw [if_neg (by decide +kernel)]; exact ⟨rfl, rfl⟩))
    (fun os started H enc _ => liftedTokenLives os started H enc)
#print axioms provedTokenLives


end Go.Proofs.Ytdlaoeepeakpeaa.TkL
