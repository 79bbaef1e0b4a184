/- TokenReads: any text is the token of the claims that the document says, or of none. No condition. -/
import Derived.Test.YtdlaoeepeakpeaaGreatM15A
import Derived.Test.YtdlaoeepeakpeaaGreatM6A
import Derived.Test.YtdlaoeepeakpeaaGreatM7A
import Derived.Test.YtdlaoeepeakpeaaGreatM5A
import Derived.Test.YtdlaoeepeakpeaaGreatChecked
namespace Go.Proofs.YtdlaoeepeakpeaaGreat.TkR
set_option linter.unusedVariables false
set_option linter.unusedSimpArgs false
open Go.ChangeShapes Go.WideShapes Go.ChangeAt Go.RowKit Base Px Wr
set_option maxRecDepth 20000 in
set_option maxHeartbeats 4000000 in
theorem walk_TokenReads (current : Int) (s : List UInt8) (w : World) (hw_current : (Lit.int .i64 current).wf = true) (hs_s : s.length ≤ 140737488351232) : Calls Tryz.prog 3 #[.int .i64 current, str s] w fun e w' => e = .returned (.bool true) ∧ Below w.heap.size w w' := by
  refine law_calls (args := [.int .i64 current, str s]) (Calls_body Tryz.func3 rfl _ Tryz.ntmps3 (by kernel_rfl) (by kernel_rfl) _ Tryz.results3 ?_ w (Sim.empty w))
  simp -dsimp -implicitDefEqProofs (disch := first | omega | assumption | (simp only [Option.isSome_some,Qt0]; done) | (simp only [List.length_cons,List.length_nil,List.length_append,Int.toNat_natCast] <;> omega)) only [Nat.reduceLT,Nat.reduceLeDiff,Nat.reduceEqDiff,↓reduceIte,Int.reduceLT,Int.reduceLE,Int.reduceToNat,Int.reduceEq,Int.reduceNe,Nat.reduceAdd,Int.reduceAdd,Int.reduceSub,Int.reduceMul,Nat.reduceMul,Qp0,Ql0,Qe0]
  refine (wake12 w (PH.empty w)).mono ?_
  rintro v h1 ⟨rfl, hl1⟩
  by_cases hri : right [109] current
  rotate_left
  · have hN := Lib.hid (new_wrong [109] current hri w h1)
    unfold errV at hN
    simp -dsimp -implicitDefEqProofs (disch := first | omega | assumption | (simp only [Option.isSome_some,Qt0]; done) | (simp only [List.length_cons,List.length_nil,List.length_append,Int.toNat_natCast] <;> omega)) only [Nat.reduceLT,Nat.reduceLeDiff,Nat.reduceEqDiff,↓reduceIte,Int.reduceLT,Int.reduceLE,Int.reduceToNat,Int.reduceEq,Int.reduceNe,Nat.reduceAdd,Int.reduceAdd,Int.reduceSub,Int.reduceMul,Nat.reduceMul,Qp0,Ql0,Qe0]
    refine hN.out.mono ?_
    rintro v h2 ⟨be, rfl, hbe, rfl⟩
    simp -dsimp -implicitDefEqProofs (disch := first | omega | assumption | (simp only [Option.isSome_some,Qt0]; done) | (simp only [List.length_cons,List.length_nil,List.length_append,Int.toNat_natCast] <;> omega)) only [Nat.reduceLT,Nat.reduceLeDiff,Nat.reduceEqDiff,↓reduceIte,Int.reduceLT,Int.reduceLE,Int.reduceToNat,Int.reduceEq,Int.reduceNe,Nat.reduceAdd,Int.reduceAdd,Int.reduceSub,Int.reduceMul,Nat.reduceMul,Qp0,Ql0,Qe0]
    exact ⟨_, hl1.trans ((PH.Le.refl h1).new _ _ hbe), by trivial⟩
  have hN := Lib.hid (new_right [109] current hri w h1)
  simp -dsimp -implicitDefEqProofs (disch := first | omega | assumption | (simp only [Option.isSome_some,Qt0]; done) | (simp only [List.length_cons,List.length_nil,List.length_append,Int.toNat_natCast] <;> omega)) only [Nat.reduceLT,Nat.reduceLeDiff,Nat.reduceEqDiff,↓reduceIte,Int.reduceLT,Int.reduceLE,Int.reduceToNat,Int.reduceEq,Int.reduceNe,Nat.reduceAdd,Int.reduceAdd,Int.reduceSub,Int.reduceMul,Nat.reduceMul,Qp0,Ql0,Qe0]
  refine hN.out.mono ?_
  rintro v h2 ⟨b, rfl, hb_b, rfl⟩
  have hl_b := (PH.Le.refl h1).new b ⟨[str [109], .int .i64 current], 2⟩ hb_b
  have hm_b : (h1.new b ⟨[str [109], .int .i64 current], 2⟩).m b = some ⟨[str [109], .int .i64 current], 2⟩ := by rw [PH.new_m, if_pos rfl]
  generalize h1.new b ⟨[str [109], .int .i64 current], 2⟩ = h2 at *

  cases b1 : decide (5000 < (s.length : Int))
  rotate_left
  · simp -dsimp -implicitDefEqProofs (disch := first | omega | assumption | (simp only [Option.isSome_some,Qt0]; done) | (simp only [List.length_cons,List.length_nil,List.length_append,Int.toNat_natCast] <;> omega)) only [Nat.reduceLT,Nat.reduceLeDiff,Nat.reduceEqDiff,↓reduceIte,Int.reduceLT,Int.reduceLE,Int.reduceToNat,Int.reduceEq,Int.reduceNe,Nat.reduceAdd,Int.reduceAdd,Int.reduceSub,Int.reduceMul,Nat.reduceMul,Qp0,Ql0,Qe0,gt_iff_lt,b1]
    exact ⟨_, hl1.trans hl_b, by trivial⟩
  have hs5 := of_decide_eq_false b1
  have hR := Lib.hid (tRead_any (.pointer (some ⟨b, 0, none⟩)) (alive current) (derive [109]) s (by omega) w h2 (key_ring b [109] current hri w h2 hm_b))
  simp -dsimp -implicitDefEqProofs (disch := first | omega | assumption | (simp only [Option.isSome_some,Qt0]; done) | (simp only [List.length_cons,List.length_nil,List.length_append,Int.toNat_natCast] <;> omega)) only [Nat.reduceLT,Nat.reduceLeDiff,Nat.reduceEqDiff,↓reduceIte,Int.reduceLT,Int.reduceLE,Int.reduceToNat,Int.reduceEq,Int.reduceNe,Nat.reduceAdd,Int.reduceAdd,Int.reduceSub,Int.reduceMul,Nat.reduceMul,Qp0,Ql0,Qe0,gt_iff_lt,b1]
  refine hR.out.mono ?_
  rintro v h3 ⟨hr, hl3⟩
  have hle3 := (hl1.trans hl_b).trans hl3
  rcases hr with ⟨c, A, cap, hic, rfl, hcap, hrv, hfr⟩ | ⟨hno, be, t, x, rfl, hbe⟩
  · have hx := trim_len (rightC_iff.1 hic.1).2.2.2.2.2.2.2
    unfold clL
    simp -dsimp -implicitDefEqProofs (disch := first | omega | assumption | (simp only [Option.isSome_some,Qt0]; done) | (simp only [List.length_cons,List.length_nil,List.length_append,Int.toNat_natCast] <;> omega)) only [Nat.reduceLT,Nat.reduceLeDiff,Nat.reduceEqDiff,↓reduceIte,Int.reduceLT,Int.reduceLE,Int.reduceToNat,Int.reduceEq,Int.reduceNe,Nat.reduceAdd,Int.reduceAdd,Int.reduceSub,Int.reduceMul,Nat.reduceMul,Qp0,Ql0,Qe0]
    refine fun cb hcb => ?_
    have hz_cb := allOne_of [str c.s, str c.u, .int .i64 c.e, .int .i64 c.i, .int .i64 c.k, .slice A c.x.length cap] rfl
    have hl_cb := (PH.Le.refl h3).new cb ⟨[str c.s, str c.u, .int .i64 c.e, .int .i64 c.i, .int .i64 c.k, .slice A c.x.length cap], 6⟩ hcb
    have hm_cb : (h3.new cb ⟨[str c.s, str c.u, .int .i64 c.e, .int .i64 c.i, .int .i64 c.k, .slice A c.x.length cap], 6⟩).m cb = some ⟨[str c.s, str c.u, .int .i64 c.e, .int .i64 c.i, .int .i64 c.k, .slice A c.x.length cap], 6⟩ := by rw [PH.new_m, if_pos rfl]
    simp -dsimp -implicitDefEqProofs (disch := first | omega | assumption | (simp only [Option.isSome_some,Qt0]; done) | (simp only [List.length_cons,List.length_nil,List.length_append,Int.toNat_natCast] <;> omega)) only [Nat.reduceLT,Nat.reduceLeDiff,Nat.reduceEqDiff,↓reduceIte,Int.reduceLT,Int.reduceLE,Int.reduceToNat,Int.reduceEq,Int.reduceNe,Nat.reduceAdd,Int.reduceAdd,Int.reduceSub,Int.reduceMul,Nat.reduceMul,Qp0,Ql0,Qe0,hz_cb,PH.new_new,List.take_zero,List.drop_succ_cons,List.drop_zero,List.drop_nil,List.nil_append,List.append_nil,rdN_new,List.take_succ_cons,ite_true]
    generalize h3.new cb ⟨[str c.s, str c.u, .int .i64 c.e, .int .i64 c.i, .int .i64 c.k, .slice A c.x.length cap], 6⟩ = h4 at *

    have hRR := Lib.hid (rRead_any [109] (by decide) current hri.2.2 s (by omega) w h4)
    refine hRR.out.mono ?_
    rintro v h5 ⟨hrr, hl5⟩
    rcases hrr with ⟨d, A2, cap2, hid, rfl, hcap2, hrv2⟩ | ⟨hno2, rfl⟩
    rotate_left
    · exact absurd hic (hno2 c)
    obtain rfl : d = c := tok_inj hid.1 hic.1 (hid.2.2.symm.trans hic.2.2)
    unfold clL
    simp -dsimp -implicitDefEqProofs (disch := first | omega | assumption | (simp only [Option.isSome_some,Qt0]; done) | (simp only [List.length_cons,List.length_nil,List.length_append,Int.toNat_natCast] <;> omega)) only [Nat.reduceLT,Nat.reduceLeDiff,Nat.reduceEqDiff,↓reduceIte,Int.reduceLT,Int.reduceLE,Int.reduceToNat,Int.reduceEq,Int.reduceNe,Nat.reduceAdd,Int.reduceAdd,Int.reduceSub,Int.reduceMul,Nat.reduceMul,Qp0,Ql0,Qe0]
    refine fun cb2 hcb2 => ?_
    have hz_cb2 := allOne_of [str d.s, str d.u, .int .i64 d.e, .int .i64 d.i, .int .i64 d.k, .slice A2 d.x.length cap2] rfl
    have hl_cb2 := (PH.Le.refl h5).new cb2 ⟨[str d.s, str d.u, .int .i64 d.e, .int .i64 d.i, .int .i64 d.k, .slice A2 d.x.length cap2], 6⟩ hcb2
    have hm_cb2 : (h5.new cb2 ⟨[str d.s, str d.u, .int .i64 d.e, .int .i64 d.i, .int .i64 d.k, .slice A2 d.x.length cap2], 6⟩).m cb2 = some ⟨[str d.s, str d.u, .int .i64 d.e, .int .i64 d.i, .int .i64 d.k, .slice A2 d.x.length cap2], 6⟩ := by rw [PH.new_m, if_pos rfl]
    simp -dsimp -implicitDefEqProofs (disch := first | omega | assumption | (simp only [Option.isSome_some,Qt0]; done) | (simp only [List.length_cons,List.length_nil,List.length_append,Int.toNat_natCast] <;> omega)) only [Nat.reduceLT,Nat.reduceLeDiff,Nat.reduceEqDiff,↓reduceIte,Int.reduceLT,Int.reduceLE,Int.reduceToNat,Int.reduceEq,Int.reduceNe,Nat.reduceAdd,Int.reduceAdd,Int.reduceSub,Int.reduceMul,Nat.reduceMul,Qp0,Ql0,Qe0,hz_cb2,PH.new_new,List.take_zero,List.drop_succ_cons,List.drop_zero,List.drop_nil,List.nil_append,List.append_nil,rdN_new,List.take_succ_cons,ite_true]
    generalize h5.new cb2 ⟨[str d.s, str d.u, .int .i64 d.e, .int .i64 d.i, .int .i64 d.k, .slice A2 d.x.length cap2], 6⟩ = h6 at *

    have hm6 := hl_cb2.m _ _ (hl5.m _ _ hm_cb)
    have hs1 : rdN w h6 ⟨cb, 0, none⟩ 6 = some [str d.s, str d.u, .int .i64 d.e, .int .i64 d.i, .int .i64 d.k, .slice A d.x.length cap] := by unfold rdN; simp only [hm6]; rfl
    have hs2 : rdN w h6 ⟨cb2, 0, none⟩ 6 = some [str d.s, str d.u, .int .i64 d.e, .int .i64 d.i, .int .i64 d.k, .slice A2 d.x.length cap2] := by unfold rdN; simp only [hm_cb2]; rfl
    have hS := sameC_any w h6 d d A A2 cap cap2 (((hrv.more hl_cb).more hl5).more hl_cb2) (hrv2.more hl_cb2) hcap hcap2 (by omega)
    rw [sameC_iff.2 rfl] at hS
    unfold clL at hS
    have hS := Lib.hid hS
    simp -dsimp -implicitDefEqProofs (disch := first | omega | assumption | (simp only [Option.isSome_some,Qt0]; done) | (simp only [List.length_cons,List.length_nil,List.length_append,Int.toNat_natCast] <;> omega)) only [Nat.reduceLT,Nat.reduceLeDiff,Nat.reduceEqDiff,↓reduceIte,Int.reduceLT,Int.reduceLE,Int.reduceToNat,Int.reduceEq,Int.reduceNe,Nat.reduceAdd,Int.reduceAdd,Int.reduceSub,Int.reduceMul,Nat.reduceMul,Qp0,Ql0,Qe0,hs1,hs2]
    refine hS.out.mono ?_
    rintro v hq ⟨rfl, hzq⟩
    simp -dsimp -implicitDefEqProofs (disch := first | omega | assumption | (simp only [Option.isSome_some,Qt0]; done) | (simp only [List.length_cons,List.length_nil,List.length_append,Int.toNat_natCast] <;> omega)) only [Nat.reduceLT,Nat.reduceLeDiff,Nat.reduceEqDiff,↓reduceIte,Int.reduceLT,Int.reduceLE,Int.reduceToNat,Int.reduceEq,Int.reduceNe,Nat.reduceAdd,Int.reduceAdd,Int.reduceSub,Int.reduceMul,Nat.reduceMul,Qp0,Ql0,Qe0]
    exact ⟨_, by rw [hzq]; exact ((hle3.trans hl_cb).trans hl5).trans hl_cb2, by trivial⟩
  · rw [clz_eq]
    unfold errV
    simp -dsimp -implicitDefEqProofs (disch := first | omega | assumption | (simp only [Option.isSome_some,Qt0]; done) | (simp only [List.length_cons,List.length_nil,List.length_append,Int.toNat_natCast] <;> omega)) only [Nat.reduceLT,Nat.reduceLeDiff,Nat.reduceEqDiff,↓reduceIte,Int.reduceLT,Int.reduceLE,Int.reduceToNat,Int.reduceEq,Int.reduceNe,Nat.reduceAdd,Int.reduceAdd,Int.reduceSub,Int.reduceMul,Nat.reduceMul,Qp0,Ql0,Qe0]
    refine fun cb hcb => ?_
    have hz_cb := allOne_of [str [], str [], .int .i64 0, .int .i64 0, .int .i64 0, .slice none 0 0] rfl
    have hl_cb := (PH.Le.refl h3).new cb ⟨[str [], str [], .int .i64 0, .int .i64 0, .int .i64 0, .slice none 0 0], 6⟩ hcb
    have hm_cb : (h3.new cb ⟨[str [], str [], .int .i64 0, .int .i64 0, .int .i64 0, .slice none 0 0], 6⟩).m cb = some ⟨[str [], str [], .int .i64 0, .int .i64 0, .int .i64 0, .slice none 0 0], 6⟩ := by rw [PH.new_m, if_pos rfl]
    simp -dsimp -implicitDefEqProofs (disch := first | omega | assumption | (simp only [Option.isSome_some,Qt0]; done) | (simp only [List.length_cons,List.length_nil,List.length_append,Int.toNat_natCast] <;> omega)) only [Nat.reduceLT,Nat.reduceLeDiff,Nat.reduceEqDiff,↓reduceIte,Int.reduceLT,Int.reduceLE,Int.reduceToNat,Int.reduceEq,Int.reduceNe,Nat.reduceAdd,Int.reduceAdd,Int.reduceSub,Int.reduceMul,Nat.reduceMul,Qp0,Ql0,Qe0,hz_cb,PH.new_new,List.take_zero,List.drop_succ_cons,List.drop_zero,List.drop_nil,List.nil_append,List.append_nil,rdN_new,List.take_succ_cons,ite_true]
    generalize h3.new cb ⟨[str [], str [], .int .i64 0, .int .i64 0, .int .i64 0, .slice none 0 0], 6⟩ = h4 at *

    have hRR := Lib.hid (rRead_any [109] (by decide) current hri.2.2 s (by omega) w h4)
    refine hRR.out.mono ?_
    rintro v h5 ⟨hrr, hl5⟩
    rcases hrr with ⟨d, A2, cap2, hid, rfl, hcap2, hrv2⟩ | ⟨hno2, rfl⟩
    · exact absurd hid (hno d)
    rw [clz_eq]
    simp -dsimp -implicitDefEqProofs (disch := first | omega | assumption | (simp only [Option.isSome_some,Qt0]; done) | (simp only [List.length_cons,List.length_nil,List.length_append,Int.toNat_natCast] <;> omega)) only [Nat.reduceLT,Nat.reduceLeDiff,Nat.reduceEqDiff,↓reduceIte,Int.reduceLT,Int.reduceLE,Int.reduceToNat,Int.reduceEq,Int.reduceNe,Nat.reduceAdd,Int.reduceAdd,Int.reduceSub,Int.reduceMul,Nat.reduceMul,Qp0,Ql0,Qe0]
    refine fun cb2 hcb2 => ?_
    have hz_cb2 := allOne_of [str [], str [], .int .i64 0, .int .i64 0, .int .i64 0, .slice none 0 0] rfl
    have hl_cb2 := (PH.Le.refl h5).new cb2 ⟨[str [], str [], .int .i64 0, .int .i64 0, .int .i64 0, .slice none 0 0], 6⟩ hcb2
    have hm_cb2 : (h5.new cb2 ⟨[str [], str [], .int .i64 0, .int .i64 0, .int .i64 0, .slice none 0 0], 6⟩).m cb2 = some ⟨[str [], str [], .int .i64 0, .int .i64 0, .int .i64 0, .slice none 0 0], 6⟩ := by rw [PH.new_m, if_pos rfl]
    simp -dsimp -implicitDefEqProofs (disch := first | omega | assumption | (simp only [Option.isSome_some,Qt0]; done) | (simp only [List.length_cons,List.length_nil,List.length_append,Int.toNat_natCast] <;> omega)) only [Nat.reduceLT,Nat.reduceLeDiff,Nat.reduceEqDiff,↓reduceIte,Int.reduceLT,Int.reduceLE,Int.reduceToNat,Int.reduceEq,Int.reduceNe,Nat.reduceAdd,Int.reduceAdd,Int.reduceSub,Int.reduceMul,Nat.reduceMul,Qp0,Ql0,Qe0,hz_cb2,PH.new_new,List.take_zero,List.drop_succ_cons,List.drop_zero,List.drop_nil,List.nil_append,List.append_nil,rdN_new,List.take_succ_cons,ite_true]
    generalize h5.new cb2 ⟨[str [], str [], .int .i64 0, .int .i64 0, .int .i64 0, .slice none 0 0], 6⟩ = h6 at *

    have hm6 := hl_cb2.m _ _ (hl5.m _ _ hm_cb)
    have hI := is_pair be tokenT (s.length : Int) 9 t x w h6 (hl_cb2.m _ _ (hl5.m _ _ (hl_cb.m _ _ hbe)))
    unfold errV codeV at hI
    have hI := Lib.hid hI
    refine hI.out.mono ?_
    rintro v h7 ⟨rfl, hl7⟩
    have hm7 := hl7.m _ _ hm6
    have hs1 : rdN w h7 ⟨cb, 0, none⟩ 6 = some [str [], str [], .int .i64 0, .int .i64 0, .int .i64 0, .slice none 0 0] := by unfold rdN; simp only [hm7]; rfl
    have hS := sameC_any w h7 clZ clZ none none 0 0 (Rv.nil _ _ _) (Rv.nil _ _ _) (by simp [clZ]) (by simp [clZ]) (by simp [clZ])
    rw [sameC_iff.2 rfl, clz_eq] at hS
    have hS := Lib.hid hS
    simp -dsimp -implicitDefEqProofs (disch := first | omega | assumption | (simp only [Option.isSome_some,Qt0]; done) | (simp only [List.length_cons,List.length_nil,List.length_append,Int.toNat_natCast] <;> omega)) only [Nat.reduceLT,Nat.reduceLeDiff,Nat.reduceEqDiff,↓reduceIte,Int.reduceLT,Int.reduceLE,Int.reduceToNat,Int.reduceEq,Int.reduceNe,Nat.reduceAdd,Int.reduceAdd,Int.reduceSub,Int.reduceMul,Nat.reduceMul,Qp0,Ql0,Qe0,hs1]
    refine hS.out.mono ?_
    rintro v hq ⟨rfl, hzq⟩
    simp -dsimp -implicitDefEqProofs (disch := first | omega | assumption | (simp only [Option.isSome_some,Qt0]; done) | (simp only [List.length_cons,List.length_nil,List.length_append,Int.toNat_natCast] <;> omega)) only [Nat.reduceLT,Nat.reduceLeDiff,Nat.reduceEqDiff,↓reduceIte,Int.reduceLT,Int.reduceLE,Int.reduceToNat,Int.reduceEq,Int.reduceNe,Nat.reduceAdd,Int.reduceAdd,Int.reduceSub,Int.reduceMul,Nat.reduceMul,Qp0,Ql0,Qe0]
    exact ⟨_, by rw [hzq]; exact (((hle3.trans hl_cb).trans hl5).trans hl_cb2).trans hl7, by trivial⟩
set_option maxRecDepth 100000 in
theorem liftedTokenReads (os : Os) (started : os.Started) (H : Type) (enc : TypeId × Value → H) :
    ReturnsInHanded {} Tryz.checked os 3 .any (Rows.tokenReadsSpec.pre6 enc Tryz.prog Tryz.f3 Rows.tokenReadsRow.domain false) (Rows.tokenReadsSpec.post enc Tryz.prog Tryz.f3 false true false false) := by
  refine returnsInHanded_of_change_sized (C := Tryz.checked) own started (by kernel_rfl) Tryz.func3
    (ChangeSpec.witness6 (enc := enc) (C := Tryz.checked) false ⟨#[], #[.int .i64 0, .string ⟨#[]⟩], []⟩ 8 (by kernel_rfl) (by kernel_rfl) (by kernel_rfl) (by kernel_rfl)) ?_
  intro W base args ds gs before hval0 hW _ hsz0 _
  have hsz : (DataW.weightsEach Tryz.prog (Tryz.f3.params.toList ++ Rows.tokenReadsSpec.plain.varTypes Tryz.prog) (ds ++ gs)).all (· ≤ reachBytes) = true := hsz0
  have hval : ∀ (j : Nat) t v, Tryz.f3.params[j]? = some t → args[j]? = some v → Value.okWide Tryz.prog W .any base t v := hval0
  have hW' := hW
  obtain ⟨p, q, hA0, hV, rfl, _, _⟩ := hW
  have hA : DataW.TrodAll enc Tryz.prog W 0 (fun _ => true) true Tryz.f3.params.toList args.toList ds p := hA0
  rw [Tryz.params3] at hA hval hsz
  obtain ⟨v0, v1, d0, d1, p0, p1, rfl, rfl, rfl, h0, h1⟩ := trodAll_two hA
  obtain ⟨rfl, _⟩ := trodVars_none hV
  obtain ⟨a0, rfl, rfl, rfl, w0⟩ := open_int Tryz.underlying3 (hval 0 _ v0 rfl rfl) h0
  obtain ⟨a1, rfl, rfl, rfl, _⟩ := ChangeMaps.open_string Tryz.underlying9 (hval 1 _ v1 rfl rfl) h1
  have w1 : a1.size ≤ 140737488351232 := by
    have := sized_string hsz (j := 1) (t := 9) rfl rfl
    simpa [reachBytes] using this
  refine (walk_TokenReads a0 a1.data.toList W w0 w1).mono fun en W' ⟨he, hb⟩ => ?_
  subst he
  exact ⟨_, rfl, law_post (tb := 4) laidOut hW' rfl rfl rfl rfl Tryz.underlying4 (by intro t ht; revert t; exact of_decide_eq_true (by kernel_rfl)) (by kernel_rfl) hb⟩

theorem provedTokenReads : Rows.TokenReadsSaid :=
  OpenClaim.holds_of_wide 3 Tryz.f3 rfl rfl rfl rfl rfl rfl rfl ⟨rfl, rfl, rfl, rfl, rfl⟩ rfl rfl rfl rfl rfl (by kernel_rfl) Tryz.func3 (by kernel_rfl)
    (of_decide_eq_true (by kernel_rfl)) (by unfold Func.isWrapper; first | (rw [if_pos (by decide +kernel)]; kernel_rfl) | (rw [if_neg (by decide +kernel)]; exact ⟨rfl, rfl⟩))
    (fun os started H enc _ => liftedTokenReads os started H enc)
#print axioms provedTokenReads


end Go.Proofs.YtdlaoeepeakpeaaGreat.TkR
