/- TokenTurned: a token that is cut, has more behind it, or another letter somewhere, is no token, unless it is that of other claims. No condition. -/
import Derived.Test.YtdlaoeepeakpeaaM11A
import Derived.Test.YtdlaoeepeakpeaaM8A
import Derived.Test.YtdlaoeepeakpeaaChecked
namespace Go.Proofs.Ytdlaoeepeakpeaa.TkT
set_option linter.unusedVariables false
set_option linter.unusedSimpArgs false
open Go.ChangeShapes Go.WideShapes Go.ChangeAt Go.RowKit Base Px Wr
set_option maxRecDepth 20000 in
set_option maxHeartbeats 4000000 in
theorem walk_TokenTurned (c : Cl) (A_c : Option Addr) (cap_c : Nat) (at_ : Int) (by_ : Int) (w : World) (hcap_c : c.x.length ≤ cap_c ∧ c.x.length ≤ 9223372036854775807) (hrv_c : ∀ h, Rv w h A_c (ints c.x)) (hw_at_ : (Lit.int .i64 at_).wf = true) (hw_by_ : (Lit.int .u8 by_).wf = true) : Calls Try.prog 8 #[.agg (clL c A_c cap_c).toArray, .int .i64 at_, .int .u8 by_] w fun e w' => e = .returned (.bool true) ∧ Below w.heap.size w w' := by
  refine law_calls (args := [.agg (clL c A_c cap_c).toArray, .int .i64 at_, .int .u8 by_]) (Calls_body Try.func8 rfl _ Try.ntmps8 (by kernel_rfl) (by kernel_rfl) _ Try.results8 ?_ w (Sim.empty w))
  obtain ⟨x, rfl⟩ := u8_lit hw_by_
  have hx8 : (Value.int .u8 (x.toNat : Int)) = u8 x := rfl
  rw [hx8]
  unfold clL
  simp -dsimp -implicitDefEqProofs (disch := first | omega | assumption | (simp only [Option.isSome_some, Qt0]; done) | (simp only [UInt64.reduceToNat, UInt32.reduceToNat, UInt8.reduceToNat, List.length_cons, List.length_nil, List.length_append, Int.toNat_natCast] <;> omega)) only [Nat.reduceLT, Nat.reduceLeDiff, Nat.reduceEqDiff, ↓reduceIte, Int.reduceLT, Int.reduceLE, Int.reduceToNat, Int.reduceEq, Int.reduceNe, Nat.reduceAdd, UInt8.reduceOfNat, UInt16.reduceOfNat, UInt32.reduceOfNat, UInt64.reduceOfNat, UInt64.reduceToNat, UInt32.reduceToNat, UInt16.reduceToNat, UInt8.reduceToNat, Int.reduceAdd, Int.reduceSub, Int.reduceMul, Nat.reduceMul, Qp0, Ql0, Qe0]
  refine fun pb hpb => ?_
  have hle_pb := (PH.Le.refl (PH.empty w)).new pb ⟨[str c.s, str c.u, .int .i64 c.e, .int .i64 c.i, .int .i64 c.k, .slice A_c c.x.length cap_c], 6⟩ hpb
  have hm_pb : ((PH.empty w).new pb ⟨[str c.s, str c.u, .int .i64 c.e, .int .i64 c.i, .int .i64 c.k, .slice A_c c.x.length cap_c], 6⟩).m pb = some ⟨[str c.s, str c.u, .int .i64 c.e, .int .i64 c.i, .int .i64 c.k, .slice A_c c.x.length cap_c], 6⟩ := by rw [PH.new_m, if_pos rfl]
  simp -dsimp -implicitDefEqProofs (disch := first | omega | assumption | (simp only [Option.isSome_some, Qt0]; done) | (simp only [UInt64.reduceToNat, UInt32.reduceToNat, UInt8.reduceToNat, List.length_cons, List.length_nil, List.length_append, Int.toNat_natCast] <;> omega)) only [Nat.reduceLT, Nat.reduceLeDiff, Nat.reduceEqDiff, ↓reduceIte, Int.reduceLT, Int.reduceLE, Int.reduceToNat, Int.reduceEq, Int.reduceNe, Nat.reduceAdd, UInt8.reduceOfNat, UInt16.reduceOfNat, UInt32.reduceOfNat, UInt64.reduceOfNat, UInt64.reduceToNat, UInt32.reduceToNat, UInt16.reduceToNat, UInt8.reduceToNat, Int.reduceAdd, Int.reduceSub, Int.reduceMul, Nat.reduceMul, Qp0, Ql0, Qe0]
  generalize (PH.empty w).new pb ⟨[str c.s, str c.u, .int .i64 c.e, .int .i64 c.i, .int .i64 c.k, .slice A_c c.x.length cap_c], 6⟩ = h0 at *
  refine (wake12 w h0).mono ?_
  rintro v h1 ⟨rfl, hl1⟩
  have hp1 := hl1.m _ _ hm_pb
  have hle1 := hle_pb.trans hl1
  have hri : right [109] 3 := by decide
  have hN := Lib.hid (new_right [109] 3 hri w h1)
  simp -dsimp -implicitDefEqProofs (disch := first | omega | assumption | (simp only [Option.isSome_some, Qt0]; done) | (simp only [UInt64.reduceToNat, UInt32.reduceToNat, UInt8.reduceToNat, List.length_cons, List.length_nil, List.length_append, Int.toNat_natCast] <;> omega)) only [Nat.reduceLT, Nat.reduceLeDiff, Nat.reduceEqDiff, ↓reduceIte, Int.reduceLT, Int.reduceLE, Int.reduceToNat, Int.reduceEq, Int.reduceNe, Nat.reduceAdd, UInt8.reduceOfNat, UInt16.reduceOfNat, UInt32.reduceOfNat, UInt64.reduceOfNat, UInt64.reduceToNat, UInt32.reduceToNat, UInt16.reduceToNat, UInt8.reduceToNat, Int.reduceAdd, Int.reduceSub, Int.reduceMul, Nat.reduceMul, Qp0, Ql0, Qe0]
  refine hN.out.mono ?_
  rintro v h2 ⟨b, rfl, hb_b, rfl⟩
  have hl_b := (PH.Le.refl h1).new b ⟨[str [109], .int .i64 3], 2⟩ hb_b
  have hm_b : (h1.new b ⟨[str [109], .int .i64 3], 2⟩).m b = some ⟨[str [109], .int .i64 3], 2⟩ := by rw [PH.new_m, if_pos rfl]
  generalize h1.new b ⟨[str [109], .int .i64 3], 2⟩ = h2 at *

  have hp2 := hl_b.m _ _ hp1
  have hle2 := hle1.trans hl_b
  have hs_pb : rdN w h2 ⟨pb, 0, none⟩ 6 = some [str c.s, str c.u, .int .i64 c.e, .int .i64 c.i, .int .i64 c.k, .slice A_c c.x.length cap_c] := by unfold rdN; simp only [hp2]; rfl
  have hM := mint_any b [109] 3 hri w h2 hm_b c A_c cap_c (hrv_c h2) hcap_c.1 hcap_c.2
  unfold clL at hM
  have hM := Lib.hid hM
  simp -dsimp -implicitDefEqProofs (disch := first | omega | assumption | (simp only [Option.isSome_some, Qt0]; done) | (simp only [UInt64.reduceToNat, UInt32.reduceToNat, UInt8.reduceToNat, List.length_cons, List.length_nil, List.length_append, Int.toNat_natCast] <;> omega)) only [Nat.reduceLT, Nat.reduceLeDiff, Nat.reduceEqDiff, ↓reduceIte, Int.reduceLT, Int.reduceLE, Int.reduceToNat, Int.reduceEq, Int.reduceNe, Nat.reduceAdd, UInt8.reduceOfNat, UInt16.reduceOfNat, UInt32.reduceOfNat, UInt64.reduceOfNat, UInt64.reduceToNat, UInt32.reduceToNat, UInt16.reduceToNat, UInt8.reduceToNat, Int.reduceAdd, Int.reduceSub, Int.reduceMul, Nat.reduceMul, Qp0, Ql0, Qe0, hs_pb]
  refine hM.out.mono ?_
  rintro v h3 ⟨hm, hl3⟩
  have hb3 := hl3.m _ _ hm_b
  have hp3 := hl3.m _ _ hp2
  have hle3 := hle2.trans hl3
  clear hs_pb
  have hs_pb : rdN w h3 ⟨pb, 0, none⟩ 6 = some [str c.s, str c.u, .int .i64 c.e, .int .i64 c.i, .int .i64 c.k, .slice A_c c.x.length cap_c] := by unfold rdN; simp only [hp3]; rfl
  have hG := great_any c A_c cap_c w h3
  unfold clL at hG
  have hG := Lib.hid hG
  unfold MINT at hm
  cases hr : rightC { c with k := 3 } with
  | false =>
    rw [hr, if_neg (by simp)] at hm
    obtain ⟨ev, e, rfl, hev, hn⟩ := hm
    obtain ⟨t, x, rfl⟩ := hev.held
    simp -dsimp -implicitDefEqProofs (disch := first | omega | assumption | (simp only [Option.isSome_some, Qt0]; done) | (simp only [UInt64.reduceToNat, UInt32.reduceToNat, UInt8.reduceToNat, List.length_cons, List.length_nil, List.length_append, Int.toNat_natCast] <;> omega)) only [Nat.reduceLT, Nat.reduceLeDiff, Nat.reduceEqDiff, ↓reduceIte, Int.reduceLT, Int.reduceLE, Int.reduceToNat, Int.reduceEq, Int.reduceNe, Nat.reduceAdd, UInt8.reduceOfNat, UInt16.reduceOfNat, UInt32.reduceOfNat, UInt64.reduceOfNat, UInt64.reduceToNat, UInt32.reduceToNat, UInt16.reduceToNat, UInt8.reduceToNat, Int.reduceAdd, Int.reduceSub, Int.reduceMul, Nat.reduceMul, Qp0, Ql0, Qe0, hs_pb]
    refine hG.out.mono ?_
    rintro v h4 ⟨rfl, hl4⟩
    cases hg : greatC c
    · simp -dsimp -implicitDefEqProofs (disch := first | omega | assumption | (simp only [Option.isSome_some, Qt0]; done) | (simp only [UInt64.reduceToNat, UInt32.reduceToNat, UInt8.reduceToNat, List.length_cons, List.length_nil, List.length_append, Int.toNat_natCast] <;> omega)) only [Nat.reduceLT, Nat.reduceLeDiff, Nat.reduceEqDiff, ↓reduceIte, Int.reduceLT, Int.reduceLE, Int.reduceToNat, Int.reduceEq, Int.reduceNe, Nat.reduceAdd, UInt8.reduceOfNat, UInt16.reduceOfNat, UInt32.reduceOfNat, UInt64.reduceOfNat, UInt64.reduceToNat, UInt32.reduceToNat, UInt16.reduceToNat, UInt8.reduceToNat, Int.reduceAdd, Int.reduceSub, Int.reduceMul, Nat.reduceMul, Qp0, Ql0, Qe0, hg]
      exact ⟨_, hle3.trans hl4, by trivial⟩
    · simp -dsimp -implicitDefEqProofs (disch := first | omega | assumption | (simp only [Option.isSome_some, Qt0]; done) | (simp only [UInt64.reduceToNat, UInt32.reduceToNat, UInt8.reduceToNat, List.length_cons, List.length_nil, List.length_append, Int.toNat_natCast] <;> omega)) only [Nat.reduceLT, Nat.reduceLeDiff, Nat.reduceEqDiff, ↓reduceIte, Int.reduceLT, Int.reduceLE, Int.reduceToNat, Int.reduceEq, Int.reduceNe, Nat.reduceAdd, UInt8.reduceOfNat, UInt16.reduceOfNat, UInt32.reduceOfNat, UInt64.reduceOfNat, UInt64.reduceToNat, UInt32.reduceToNat, UInt16.reduceToNat, UInt8.reduceToNat, Int.reduceAdd, Int.reduceSub, Int.reduceMul, Nat.reduceMul, Qp0, Ql0, Qe0, hg]
      exact ⟨_, hle3.trans hl4, by trivial⟩
  | true =>
    rw [hr, if_pos rfl] at hm
    subst hm
    have hlen := tok_length (derive [109]) { c with k := 3 }
    have hbl := bytesC_le hr
    have hcn := @cut_no (alive 3) (derive [109]) { c with k := 3 }
    have hmn := @more_no (alive 3) (derive [109]) { c with k := 3 } x
    have hdc := dot_count (derive [109]) { c with k := 3 }
    have hT : (tok (derive [109]) { c with k := 3 }).length ≤ 1000 := by omega
    have hself : ∃ d, IsT (alive 3) (derive [109]) (tok (derive [109]) { c with k := 3 }) d := ⟨_, hr, ⟨show (0 : Int) ≤ 3 by decide, show (3 : Int) ≤ 1099511627776 by decide, show (3 : Int) - 2 ≤ 3 by decide⟩, rfl⟩
    generalize tok (derive [109]) { c with k := 3 } = T at *
    simp -dsimp -implicitDefEqProofs (disch := first | omega | assumption | (simp only [Option.isSome_some, Qt0]; done) | (simp only [UInt64.reduceToNat, UInt32.reduceToNat, UInt8.reduceToNat, List.length_cons, List.length_nil, List.length_append, Int.toNat_natCast] <;> omega)) only [Nat.reduceLT, Nat.reduceLeDiff, Nat.reduceEqDiff, ↓reduceIte, Int.reduceLT, Int.reduceLE, Int.reduceToNat, Int.reduceEq, Int.reduceNe, Nat.reduceAdd, UInt8.reduceOfNat, UInt16.reduceOfNat, UInt32.reduceOfNat, UInt64.reduceOfNat, UInt64.reduceToNat, UInt32.reduceToNat, UInt16.reduceToNat, UInt8.reduceToNat, Int.reduceAdd, Int.reduceSub, Int.reduceMul, Nat.reduceMul, Qp0, Ql0, Qe0, hs_pb]
    refine hG.out.mono ?_
    rintro v h4 ⟨rfl, hl4⟩
    have hb4 := hl4.m _ _ hb3
    have hle4 := hle3.trans hl4
    cases hg : greatC c
    rotate_left
    · simp -dsimp -implicitDefEqProofs (disch := first | omega | assumption | (simp only [Option.isSome_some, Qt0]; done) | (simp only [UInt64.reduceToNat, UInt32.reduceToNat, UInt8.reduceToNat, List.length_cons, List.length_nil, List.length_append, Int.toNat_natCast] <;> omega)) only [Nat.reduceLT, Nat.reduceLeDiff, Nat.reduceEqDiff, ↓reduceIte, Int.reduceLT, Int.reduceLE, Int.reduceToNat, Int.reduceEq, Int.reduceNe, Nat.reduceAdd, UInt8.reduceOfNat, UInt16.reduceOfNat, UInt32.reduceOfNat, UInt64.reduceOfNat, UInt64.reduceToNat, UInt32.reduceToNat, UInt16.reduceToNat, UInt8.reduceToNat, Int.reduceAdd, Int.reduceSub, Int.reduceMul, Nat.reduceMul, Qp0, Ql0, Qe0, hg]
      exact ⟨_, hle4, by trivial⟩
    by_cases h1 : at_ < 0
    · have d2 := decide_eq_true h1
      simp -dsimp -implicitDefEqProofs (disch := first | omega | assumption | (simp only [Option.isSome_some, Qt0]; done) | (simp only [UInt64.reduceToNat, UInt32.reduceToNat, UInt8.reduceToNat, List.length_cons, List.length_nil, List.length_append, Int.toNat_natCast] <;> omega)) only [Nat.reduceLT, Nat.reduceLeDiff, Nat.reduceEqDiff, ↓reduceIte, Int.reduceLT, Int.reduceLE, Int.reduceToNat, Int.reduceEq, Int.reduceNe, Nat.reduceAdd, UInt8.reduceOfNat, UInt16.reduceOfNat, UInt32.reduceOfNat, UInt64.reduceOfNat, UInt64.reduceToNat, UInt32.reduceToNat, UInt16.reduceToNat, UInt8.reduceToNat, Int.reduceAdd, Int.reduceSub, Int.reduceMul, Nat.reduceMul, Qp0, Ql0, Qe0, hg, d2]
      exact ⟨_, hle4, by trivial⟩
    have d2 := decide_eq_false h1
    obtain ⟨j, rfl⟩ := Int.eq_ofNat_of_zero_le (show 0 ≤ at_ by omega)
    by_cases h2 : (T.length : Int) ≤ (j : Int)
    · have d3 := decide_eq_true h2
      simp -dsimp -implicitDefEqProofs (disch := first | omega | assumption | (simp only [Option.isSome_some, Qt0]; done) | (simp only [UInt64.reduceToNat, UInt32.reduceToNat, UInt8.reduceToNat, List.length_cons, List.length_nil, List.length_append, Int.toNat_natCast] <;> omega)) only [Nat.reduceLT, Nat.reduceLeDiff, Nat.reduceEqDiff, ↓reduceIte, Int.reduceLT, Int.reduceLE, Int.reduceToNat, Int.reduceEq, Int.reduceNe, Nat.reduceAdd, UInt8.reduceOfNat, UInt16.reduceOfNat, UInt32.reduceOfNat, UInt64.reduceOfNat, UInt64.reduceToNat, UInt32.reduceToNat, UInt16.reduceToNat, UInt8.reduceToNat, Int.reduceAdd, Int.reduceSub, Int.reduceMul, Nat.reduceMul, Qp0, Ql0, Qe0, hg, d2, d3]
      exact ⟨_, hle4, by trivial⟩
    have d3 := decide_eq_false h2
    obtain ⟨y, hy⟩ : ∃ y, T[j]? = some y := ⟨_, List.getElem?_eq_getElem (by omega)⟩
    have hy' : (bs T)[j]? = some (u8 y) := by simp [bs, hy]
    have hset : (bs T).set j (u8 (y ^^^ x)) = bs (T.set j (y ^^^ x)) := by simp [bs]
    have hlen2 : (T.set j (y ^^^ x)).length = T.length := List.length_set
    have hback : x = 0 → T.set j (y ^^^ x) = T := fun e => by
      subst e
      apply List.ext_getElem?
      intro k
      by_cases hk : k = j
      · subst hk; rw [List.getElem?_set_self (by omega), hy]; simp
      · rw [List.getElem?_set_ne (by omega)]
    simp -dsimp -implicitDefEqProofs (disch := first | omega | assumption | (simp only [Option.isSome_some, Qt0]; done) | (simp only [UInt64.reduceToNat, UInt32.reduceToNat, UInt8.reduceToNat, List.length_cons, List.length_nil, List.length_append, Int.toNat_natCast] <;> omega)) only [Nat.reduceLT, Nat.reduceLeDiff, Nat.reduceEqDiff, ↓reduceIte, Int.reduceLT, Int.reduceLE, Int.reduceToNat, Int.reduceEq, Int.reduceNe, Nat.reduceAdd, UInt8.reduceOfNat, UInt16.reduceOfNat, UInt32.reduceOfNat, UInt64.reduceOfNat, UInt64.reduceToNat, UInt32.reduceToNat, UInt16.reduceToNat, UInt8.reduceToNat, Int.reduceAdd, Int.reduceSub, Int.reduceMul, Nat.reduceMul, Qp0, Ql0, Qe0, hg, d2, d3]
    refine Does_bytes Try.underlying9 Try.underlying49 Try.underlying5 (by unfold maxLen; omega) (fun v h5 how hne => ?_)
    have hb5 := how.le.m _ _ hb4
    have hle5 := hle4.trans how.le
    obtain ⟨bb, cc, rfl, hc, hmm⟩ := how.own.pos (by omega)
    rw [Nat.mul_one] at hmm
    have hbn := how.new bb rfl
    have hlb : (bs T).length = T.length := bs_length T
    simp -dsimp -implicitDefEqProofs (disch := first | omega | assumption | (simp only [Option.isSome_some, Qt0]; done) | (simp only [UInt64.reduceToNat, UInt32.reduceToNat, UInt8.reduceToNat, List.length_cons, List.length_nil, List.length_append, Int.toNat_natCast] <;> omega)) only [Nat.reduceLT, Nat.reduceLeDiff, Nat.reduceEqDiff, ↓reduceIte, Int.reduceLT, Int.reduceLE, Int.reduceToNat, Int.reduceEq, Int.reduceNe, Nat.reduceAdd, UInt8.reduceOfNat, UInt16.reduceOfNat, UInt32.reduceOfNat, UInt64.reduceOfNat, UInt64.reduceToNat, UInt32.reduceToNat, UInt16.reduceToNat, UInt8.reduceToNat, Int.reduceAdd, Int.reduceSub, Int.reduceMul, Nat.reduceMul, Qp0, Ql0, Qe0, rd_M, rdM_some, hmm, hy', hlb, hset]
    have hbk : bb ≠ b := by have := h4.lt _ _ hb4; omega
    have hb6 : (h5.new bb ⟨bs (T.set j (y ^^^ x)), cc⟩).m b = some ⟨[str [109], .int .i64 3], 2⟩ := by rw [PH.new_m, if_neg hbk.symm]; exact hb5
    have hm6 : (h5.new bb ⟨bs (T.set j (y ^^^ x)), cc⟩).m bb = some ⟨bs (T.set j (y ^^^ x)), cc⟩ := by rw [PH.new_m, if_pos rfl]
    have hle6 : PH.Le (PH.empty w) (h5.new bb ⟨bs (T.set j (y ^^^ x)), cc⟩) := hle5.new _ _ (Nat.le_trans hle4.top hbn)
    generalize h5.new bb ⟨bs (T.set j (y ^^^ x)), cc⟩ = h6 at *
    have hlS : (bs (T.set j (y ^^^ x))).length = T.length * 1 := by rw [bs_length, hlen2, Nat.mul_one]
    refine vtext_own Try.underlying49 Try.underlying5 Try.underlying9 (Rs.blk (k := ⟨bs (T.set j (y ^^^ x)), cc⟩) hm6 hlS) (fun e => by cases e) ?_
    generalize T.set j (y ^^^ x) = S at *
    have hR := Lib.hid (tRead_any (.pointer (some ⟨b, 0, none⟩)) (alive 3) (derive [109]) S (by omega) w h6 (key_ring b [109] 3 hri w h6 hb6))
    simp -dsimp -implicitDefEqProofs (disch := first | omega | assumption | (simp only [Option.isSome_some, Qt0]; done) | (simp only [UInt64.reduceToNat, UInt32.reduceToNat, UInt8.reduceToNat, List.length_cons, List.length_nil, List.length_append, Int.toNat_natCast] <;> omega)) only [Nat.reduceLT, Nat.reduceLeDiff, Nat.reduceEqDiff, ↓reduceIte, Int.reduceLT, Int.reduceLE, Int.reduceToNat, Int.reduceEq, Int.reduceNe, Nat.reduceAdd, UInt8.reduceOfNat, UInt16.reduceOfNat, UInt32.reduceOfNat, UInt64.reduceOfNat, UInt64.reduceToNat, UInt32.reduceToNat, UInt16.reduceToNat, UInt8.reduceToNat, Int.reduceAdd, Int.reduceSub, Int.reduceMul, Nat.reduceMul, Qp0, Ql0, Qe0]
    refine hR.out.mono ?_
    rintro v h7 ⟨hrd, hl7⟩
    obtain ⟨d, A, cap, ev, rfl, hcapd, hrvd, hd⟩ := RDO_both hrd
    clear hrd
    unfold clL
    simp -dsimp -implicitDefEqProofs (disch := first | omega | assumption | (simp only [Option.isSome_some, Qt0]; done) | (simp only [UInt64.reduceToNat, UInt32.reduceToNat, UInt8.reduceToNat, List.length_cons, List.length_nil, List.length_append, Int.toNat_natCast] <;> omega)) only [Nat.reduceLT, Nat.reduceLeDiff, Nat.reduceEqDiff, ↓reduceIte, Int.reduceLT, Int.reduceLE, Int.reduceToNat, Int.reduceEq, Int.reduceNe, Nat.reduceAdd, UInt8.reduceOfNat, UInt16.reduceOfNat, UInt32.reduceOfNat, UInt64.reduceOfNat, UInt64.reduceToNat, UInt32.reduceToNat, UInt16.reduceToNat, UInt8.reduceToNat, Int.reduceAdd, Int.reduceSub, Int.reduceMul, Nat.reduceMul, Qp0, Ql0, Qe0]
    refine fun cb hcb => ?_
    have hz_cb := allOne_of [str d.s, str d.u, .int .i64 d.e, .int .i64 d.i, .int .i64 d.k, .slice A d.x.length cap] rfl
    have hl_cb := (PH.Le.refl h7).new cb ⟨[str d.s, str d.u, .int .i64 d.e, .int .i64 d.i, .int .i64 d.k, .slice A d.x.length cap], 6⟩ hcb
    have hm_cb : (h7.new cb ⟨[str d.s, str d.u, .int .i64 d.e, .int .i64 d.i, .int .i64 d.k, .slice A d.x.length cap], 6⟩).m cb = some ⟨[str d.s, str d.u, .int .i64 d.e, .int .i64 d.i, .int .i64 d.k, .slice A d.x.length cap], 6⟩ := by rw [PH.new_m, if_pos rfl]
    simp -dsimp -implicitDefEqProofs (disch := first | omega | assumption | (simp only [Option.isSome_some, Qt0]; done) | (simp only [UInt64.reduceToNat, UInt32.reduceToNat, UInt8.reduceToNat, List.length_cons, List.length_nil, List.length_append, Int.toNat_natCast] <;> omega)) only [Nat.reduceLT, Nat.reduceLeDiff, Nat.reduceEqDiff, ↓reduceIte, Int.reduceLT, Int.reduceLE, Int.reduceToNat, Int.reduceEq, Int.reduceNe, Nat.reduceAdd, UInt8.reduceOfNat, UInt16.reduceOfNat, UInt32.reduceOfNat, UInt64.reduceOfNat, UInt64.reduceToNat, UInt32.reduceToNat, UInt16.reduceToNat, UInt8.reduceToNat, Int.reduceAdd, Int.reduceSub, Int.reduceMul, Nat.reduceMul, Qp0, Ql0, Qe0, hz_cb, PH.new_new, List.take_zero, List.drop_succ_cons, List.drop_zero, List.drop_nil, List.nil_append, List.append_nil, rdN_new, List.take_succ_cons, ite_true]
    generalize h7.new cb ⟨[str d.s, str d.u, .int .i64 d.e, .int .i64 d.i, .int .i64 d.k, .slice A d.x.length cap], 6⟩ = h8 at *

    have hle8 := (hle6.trans hl7).trans hl_cb
    have hb8 := hl_cb.m _ _ (hl7.m _ _ hb6)
    have hm8 := hl_cb.m _ _ (hl7.m _ _ hm6)
    have htl : (T.take j).length ≤ 4000000 := by rw [List.length_take]; omega
    have hR2 := Lib.hid (tRead_any (.pointer (some ⟨b, 0, none⟩)) (alive 3) (derive [109]) (T.take j) htl w h8 (key_ring b [109] 3 hri w h8 hb8))
    refine hR2.out.mono ?_
    rintro v h9 ⟨hrd2, hl9⟩
    obtain ⟨be2, t2, x2, rfl, hbe2⟩ := RDO_no hrd2 (hcn (by omega))
    rw [clz_eq]
    unfold errV
    simp -dsimp -implicitDefEqProofs (disch := first | omega | assumption | (simp only [Option.isSome_some, Qt0]; done) | (simp only [UInt64.reduceToNat, UInt32.reduceToNat, UInt8.reduceToNat, List.length_cons, List.length_nil, List.length_append, Int.toNat_natCast] <;> omega)) only [Nat.reduceLT, Nat.reduceLeDiff, Nat.reduceEqDiff, ↓reduceIte, Int.reduceLT, Int.reduceLE, Int.reduceToNat, Int.reduceEq, Int.reduceNe, Nat.reduceAdd, UInt8.reduceOfNat, UInt16.reduceOfNat, UInt32.reduceOfNat, UInt64.reduceOfNat, UInt64.reduceToNat, UInt32.reduceToNat, UInt16.reduceToNat, UInt8.reduceToNat, Int.reduceAdd, Int.reduceSub, Int.reduceMul, Nat.reduceMul, Qp0, Ql0, Qe0]
    refine fun cb2 hcb2 => ?_
    have hz_cb2 := allOne_of [str [], str [], .int .i64 0, .int .i64 0, .int .i64 0, .slice none 0 0] rfl
    have hl_cb2 := (PH.Le.refl h9).new cb2 ⟨[str [], str [], .int .i64 0, .int .i64 0, .int .i64 0, .slice none 0 0], 6⟩ hcb2
    have hm_cb2 : (h9.new cb2 ⟨[str [], str [], .int .i64 0, .int .i64 0, .int .i64 0, .slice none 0 0], 6⟩).m cb2 = some ⟨[str [], str [], .int .i64 0, .int .i64 0, .int .i64 0, .slice none 0 0], 6⟩ := by rw [PH.new_m, if_pos rfl]
    simp -dsimp -implicitDefEqProofs (disch := first | omega | assumption | (simp only [Option.isSome_some, Qt0]; done) | (simp only [UInt64.reduceToNat, UInt32.reduceToNat, UInt8.reduceToNat, List.length_cons, List.length_nil, List.length_append, Int.toNat_natCast] <;> omega)) only [Nat.reduceLT, Nat.reduceLeDiff, Nat.reduceEqDiff, ↓reduceIte, Int.reduceLT, Int.reduceLE, Int.reduceToNat, Int.reduceEq, Int.reduceNe, Nat.reduceAdd, UInt8.reduceOfNat, UInt16.reduceOfNat, UInt32.reduceOfNat, UInt64.reduceOfNat, UInt64.reduceToNat, UInt32.reduceToNat, UInt16.reduceToNat, UInt8.reduceToNat, Int.reduceAdd, Int.reduceSub, Int.reduceMul, Nat.reduceMul, Qp0, Ql0, Qe0, hz_cb2, PH.new_new, List.take_zero, List.drop_succ_cons, List.drop_zero, List.drop_nil, List.nil_append, List.append_nil, rdN_new, List.take_succ_cons, ite_true]
    generalize h9.new cb2 ⟨[str [], str [], .int .i64 0, .int .i64 0, .int .i64 0, .slice none 0 0], 6⟩ = ha at *

    refine Does_one (v := u8 x) el_u8t rfl (by omega) (fun gb hgb => ?_)
    rw [show (u8 x).cells.toList = bs [x] from rfl]
    simp -dsimp -implicitDefEqProofs (disch := first | omega | assumption | (simp only [Option.isSome_some, Qt0]; done) | (simp only [UInt64.reduceToNat, UInt32.reduceToNat, UInt8.reduceToNat, List.length_cons, List.length_nil, List.length_append, Int.toNat_natCast] <;> omega)) only [Nat.reduceLT, Nat.reduceLeDiff, Nat.reduceEqDiff, ↓reduceIte, Int.reduceLT, Int.reduceLE, Int.reduceToNat, Int.reduceEq, Int.reduceNe, Nat.reduceAdd, UInt8.reduceOfNat, UInt16.reduceOfNat, UInt32.reduceOfNat, UInt64.reduceOfNat, UInt64.reduceToNat, UInt32.reduceToNat, UInt16.reduceToNat, UInt8.reduceToNat, Int.reduceAdd, Int.reduceSub, Int.reduceMul, Nat.reduceMul, Qp0, Ql0, Qe0]
    have hl_gb := (PH.Le.refl ha).new gb ⟨bs [x], 1⟩ hgb
    have hm_gb : (ha.new gb ⟨bs [x], 1⟩).m gb = some ⟨bs [x], 1⟩ := by rw [PH.new_m, if_pos rfl]
    generalize ha.new gb ⟨bs [x], 1⟩ = hb at *
    refine vtext_own Try.underlying49 Try.underlying5 Try.underlying9 (Rs.blk (k := ⟨bs [x], 1⟩) hm_gb rfl) (fun e => by cases e) ?_
    have hab := ((hl9.trans hl_cb2).trans hl_gb)
    have hbb := hab.m _ _ hb8
    have hmb := hab.m _ _ hm8
    have hR3 := Lib.hid (tRead_any (.pointer (some ⟨b, 0, none⟩)) (alive 3) (derive [109]) (T ++ [x]) (by simp; omega) w hb (key_ring b [109] 3 hri w hb hbb))
    simp -dsimp -implicitDefEqProofs (disch := first | omega | assumption | (simp only [Option.isSome_some, Qt0]; done) | (simp only [UInt64.reduceToNat, UInt32.reduceToNat, UInt8.reduceToNat, List.length_cons, List.length_nil, List.length_append, Int.toNat_natCast] <;> omega)) only [Nat.reduceLT, Nat.reduceLeDiff, Nat.reduceEqDiff, ↓reduceIte, Int.reduceLT, Int.reduceLE, Int.reduceToNat, Int.reduceEq, Int.reduceNe, Nat.reduceAdd, UInt8.reduceOfNat, UInt16.reduceOfNat, UInt32.reduceOfNat, UInt64.reduceOfNat, UInt64.reduceToNat, UInt32.reduceToNat, UInt16.reduceToNat, UInt8.reduceToNat, Int.reduceAdd, Int.reduceSub, Int.reduceMul, Nat.reduceMul, Qp0, Ql0, Qe0]
    refine hR3.out.mono ?_
    rintro v hc' ⟨hrd3, hlc⟩
    obtain ⟨be3, t3, x3, rfl, hbe3⟩ := RDO_no hrd3 hmn
    rw [clz_eq]
    unfold errV
    simp -dsimp -implicitDefEqProofs (disch := first | omega | assumption | (simp only [Option.isSome_some, Qt0]; done) | (simp only [UInt64.reduceToNat, UInt32.reduceToNat, UInt8.reduceToNat, List.length_cons, List.length_nil, List.length_append, Int.toNat_natCast] <;> omega)) only [Nat.reduceLT, Nat.reduceLeDiff, Nat.reduceEqDiff, ↓reduceIte, Int.reduceLT, Int.reduceLE, Int.reduceToNat, Int.reduceEq, Int.reduceNe, Nat.reduceAdd, UInt8.reduceOfNat, UInt16.reduceOfNat, UInt32.reduceOfNat, UInt64.reduceOfNat, UInt64.reduceToNat, UInt32.reduceToNat, UInt16.reduceToNat, UInt8.reduceToNat, Int.reduceAdd, Int.reduceSub, Int.reduceMul, Nat.reduceMul, Qp0, Ql0, Qe0]
    refine fun cb3 hcb3 => ?_
    have hz_cb3 := allOne_of [str [], str [], .int .i64 0, .int .i64 0, .int .i64 0, .slice none 0 0] rfl
    have hl_cb3 := (PH.Le.refl hc').new cb3 ⟨[str [], str [], .int .i64 0, .int .i64 0, .int .i64 0, .slice none 0 0], 6⟩ hcb3
    have hm_cb3 : (hc'.new cb3 ⟨[str [], str [], .int .i64 0, .int .i64 0, .int .i64 0, .slice none 0 0], 6⟩).m cb3 = some ⟨[str [], str [], .int .i64 0, .int .i64 0, .int .i64 0, .slice none 0 0], 6⟩ := by rw [PH.new_m, if_pos rfl]
    simp -dsimp -implicitDefEqProofs (disch := first | omega | assumption | (simp only [Option.isSome_some, Qt0]; done) | (simp only [UInt64.reduceToNat, UInt32.reduceToNat, UInt8.reduceToNat, List.length_cons, List.length_nil, List.length_append, Int.toNat_natCast] <;> omega)) only [Nat.reduceLT, Nat.reduceLeDiff, Nat.reduceEqDiff, ↓reduceIte, Int.reduceLT, Int.reduceLE, Int.reduceToNat, Int.reduceEq, Int.reduceNe, Nat.reduceAdd, UInt8.reduceOfNat, UInt16.reduceOfNat, UInt32.reduceOfNat, UInt64.reduceOfNat, UInt64.reduceToNat, UInt32.reduceToNat, UInt16.reduceToNat, UInt8.reduceToNat, Int.reduceAdd, Int.reduceSub, Int.reduceMul, Nat.reduceMul, Qp0, Ql0, Qe0, hz_cb3, PH.new_new, List.take_zero, List.drop_succ_cons, List.drop_zero, List.drop_nil, List.nil_append, List.append_nil, rdN_new, List.take_succ_cons, ite_true]
    generalize hc'.new cb3 ⟨[str [], str [], .int .i64 0, .int .i64 0, .int .i64 0, .slice none 0 0], 6⟩ = hD at *

    have hac := (hab.trans hlc).trans hl_cb3
    have hI2 := is_pair be2 tokenT ((T.take j).length : Int) 9 t2 x2 w hD (hl_cb3.m _ _ (hlc.m _ _ (hl_gb.m _ _ (hl_cb2.m _ _ hbe2))))
    unfold errV codeV at hI2
    have hI2 := Lib.hid hI2
    refine hI2.out.mono ?_
    rintro v hE ⟨rfl, hlE⟩
    have hI3 := is_pair be3 tokenT ((T ++ [x]).length : Int) 9 t3 x3 w hE (hlE.m _ _ (hl_cb3.m _ _ hbe3))
    unfold errV codeV at hI3
    have hI3 := Lib.hid hI3
    simp -dsimp -implicitDefEqProofs (disch := first | omega | assumption | (simp only [Option.isSome_some, Qt0]; done) | (simp only [UInt64.reduceToNat, UInt32.reduceToNat, UInt8.reduceToNat, List.length_cons, List.length_nil, List.length_append, Int.toNat_natCast] <;> omega)) only [Nat.reduceLT, Nat.reduceLeDiff, Nat.reduceEqDiff, ↓reduceIte, Int.reduceLT, Int.reduceLE, Int.reduceToNat, Int.reduceEq, Int.reduceNe, Nat.reduceAdd, UInt8.reduceOfNat, UInt16.reduceOfNat, UInt32.reduceOfNat, UInt64.reduceOfNat, UInt64.reduceToNat, UInt32.reduceToNat, UInt16.reduceToNat, UInt8.reduceToNat, Int.reduceAdd, Int.reduceSub, Int.reduceMul, Nat.reduceMul, Qp0, Ql0, Qe0]
    refine hI3.out.mono ?_
    rintro v hF ⟨rfl, hlF⟩
    have hCt := count_one T 46 w hF
    rw [hdc] at hCt
    have hCt := Lib.hid hCt
    have hall := (hac.trans hlE).trans hlF
    have hleF := hle8.trans hall
    have hcF := hall.m _ _ hm_cb
    have hmF := hall.m _ _ hm8
    rcases hd with ⟨rfl, hic⟩ | ⟨hno, be, t, xx, rfl, hbe⟩
    · simp -dsimp -implicitDefEqProofs (disch := first | omega | assumption | (simp only [Option.isSome_some, Qt0]; done) | (simp only [UInt64.reduceToNat, UInt32.reduceToNat, UInt8.reduceToNat, List.length_cons, List.length_nil, List.length_append, Int.toNat_natCast] <;> omega)) only [Nat.reduceLT, Nat.reduceLeDiff, Nat.reduceEqDiff, ↓reduceIte, Int.reduceLT, Int.reduceLE, Int.reduceToNat, Int.reduceEq, Int.reduceNe, Nat.reduceAdd, UInt8.reduceOfNat, UInt16.reduceOfNat, UInt32.reduceOfNat, UInt64.reduceOfNat, UInt64.reduceToNat, UInt32.reduceToNat, UInt16.reduceToNat, UInt8.reduceToNat, Int.reduceAdd, Int.reduceSub, Int.reduceMul, Nat.reduceMul, Qp0, Ql0, Qe0]
      refine hCt.out.mono ?_
      rintro v hq ⟨rfl, hz⟩
      obtain rfl := hz.symm
      simp -dsimp -implicitDefEqProofs (disch := first | omega | assumption | (simp only [Option.isSome_some, Qt0]; done) | (simp only [UInt64.reduceToNat, UInt32.reduceToNat, UInt8.reduceToNat, List.length_cons, List.length_nil, List.length_append, Int.toNat_natCast] <;> omega)) only [Nat.reduceLT, Nat.reduceLeDiff, Nat.reduceEqDiff, ↓reduceIte, Int.reduceLT, Int.reduceLE, Int.reduceToNat, Int.reduceEq, Int.reduceNe, Nat.reduceAdd, UInt8.reduceOfNat, UInt16.reduceOfNat, UInt32.reduceOfNat, UInt64.reduceOfNat, UInt64.reduceToNat, UInt32.reduceToNat, UInt16.reduceToNat, UInt8.reduceToNat, Int.reduceAdd, Int.reduceSub, Int.reduceMul, Nat.reduceMul, Qp0, Ql0, Qe0, rd_M, rdM_some, hcF]
      have hck := (rightC_iff.1 hic.1).2.2.2.2.2.2.1
      have hri2 : right [109] d.k := ⟨by decide, by decide, hck.1, hck.2⟩
      have hx := trim_len (rightC_iff.1 hic.1).2.2.2.2.2.2.2
      have hN2 := Lib.hid (new_right [109] d.k hri2 w hF)
      refine hN2.out.mono ?_
      rintro v hG2 ⟨b2, rfl, hb_b2, rfl⟩
      have hl_b2 := (PH.Le.refl hF).new b2 ⟨[str [109], .int .i64 d.k], 2⟩ hb_b2
      have hm_b2 : (hF.new b2 ⟨[str [109], .int .i64 d.k], 2⟩).m b2 = some ⟨[str [109], .int .i64 d.k], 2⟩ := by rw [PH.new_m, if_pos rfl]
      generalize hF.new b2 ⟨[str [109], .int .i64 d.k], 2⟩ = hG2 at *

      have hcG := hl_b2.m _ _ hcF
      have hmG := hl_b2.m _ _ hmF
      have hs_cb : rdN w hG2 ⟨cb, 0, none⟩ 6 = some [str d.s, str d.u, .int .i64 d.e, .int .i64 d.i, .int .i64 d.k, .slice A d.x.length cap] := by unfold rdN; simp only [hcG]; rfl
      have hM2 := mint_any b2 [109] d.k hri2 w hG2 hm_b2 d A cap (((hrvd.more hl_cb).more hall).more hl_b2) hcapd (by omega)
      have heta : { d with k := d.k } = d := rfl
      rw [heta] at hM2
      unfold clL at hM2
      have hM2 := Lib.hid hM2
      simp -dsimp -implicitDefEqProofs (disch := first | omega | assumption | (simp only [Option.isSome_some, Qt0]; done) | (simp only [UInt64.reduceToNat, UInt32.reduceToNat, UInt8.reduceToNat, List.length_cons, List.length_nil, List.length_append, Int.toNat_natCast] <;> omega)) only [Nat.reduceLT, Nat.reduceLeDiff, Nat.reduceEqDiff, ↓reduceIte, Int.reduceLT, Int.reduceLE, Int.reduceToNat, Int.reduceEq, Int.reduceNe, Nat.reduceAdd, UInt8.reduceOfNat, UInt16.reduceOfNat, UInt32.reduceOfNat, UInt64.reduceOfNat, UInt64.reduceToNat, UInt32.reduceToNat, UInt16.reduceToNat, UInt8.reduceToNat, Int.reduceAdd, Int.reduceSub, Int.reduceMul, Nat.reduceMul, Qp0, Ql0, Qe0, hs_cb]
      refine hM2.out.mono ?_
      rintro v hH ⟨hmH, hlH⟩
      unfold MINT at hmH
      rw [if_pos hic.1, ← hic.2.2] at hmH
      subst hmH
      have hss := decide_eq_true (show S = S from rfl)
      simp -dsimp -implicitDefEqProofs (disch := first | omega | assumption | (simp only [Option.isSome_some, Qt0]; done) | (simp only [UInt64.reduceToNat, UInt32.reduceToNat, UInt8.reduceToNat, List.length_cons, List.length_nil, List.length_append, Int.toNat_natCast] <;> omega)) only [Nat.reduceLT, Nat.reduceLeDiff, Nat.reduceEqDiff, ↓reduceIte, Int.reduceLT, Int.reduceLE, Int.reduceToNat, Int.reduceEq, Int.reduceNe, Nat.reduceAdd, UInt8.reduceOfNat, UInt16.reduceOfNat, UInt32.reduceOfNat, UInt64.reduceOfNat, UInt64.reduceToNat, UInt32.reduceToNat, UInt16.reduceToNat, UInt8.reduceToNat, Int.reduceAdd, Int.reduceSub, Int.reduceMul, Nat.reduceMul, Qp0, Ql0, Qe0]
      refine vtext_own Try.underlying49 Try.underlying5 Try.underlying9 (Rs.blk (k := ⟨bs S, cc⟩) (hlH.m _ _ hmG) hlS) (fun e => by cases e) ?_
      simp -dsimp -implicitDefEqProofs (disch := first | omega | assumption | (simp only [Option.isSome_some, Qt0]; done) | (simp only [UInt64.reduceToNat, UInt32.reduceToNat, UInt8.reduceToNat, List.length_cons, List.length_nil, List.length_append, Int.toNat_natCast] <;> omega)) only [Nat.reduceLT, Nat.reduceLeDiff, Nat.reduceEqDiff, ↓reduceIte, Int.reduceLT, Int.reduceLE, Int.reduceToNat, Int.reduceEq, Int.reduceNe, Nat.reduceAdd, UInt8.reduceOfNat, UInt16.reduceOfNat, UInt32.reduceOfNat, UInt64.reduceOfNat, UInt64.reduceToNat, UInt32.reduceToNat, UInt16.reduceToNat, UInt8.reduceToNat, Int.reduceAdd, Int.reduceSub, Int.reduceMul, Nat.reduceMul, Qp0, Ql0, Qe0, hss]
      exact ⟨_, (hleF.trans hl_b2).trans hlH, by trivial⟩
    · have hx0 : x ≠ 0 := fun e => by
        obtain ⟨d2, hd2⟩ := hself
        rw [← hback e] at hd2
        exact hno d2 hd2
      have dx := decide_eq_false hx0
      have hI := is_pair be tokenT (S.length : Int) 9 t xx w hF (hall.m _ _ (hl_cb.m _ _ hbe))
      unfold errV codeV at hI
      have hI := Lib.hid hI
      unfold errV
      simp -dsimp -implicitDefEqProofs (disch := first | omega | assumption | (simp only [Option.isSome_some, Qt0]; done) | (simp only [UInt64.reduceToNat, UInt32.reduceToNat, UInt8.reduceToNat, List.length_cons, List.length_nil, List.length_append, Int.toNat_natCast] <;> omega)) only [Nat.reduceLT, Nat.reduceLeDiff, Nat.reduceEqDiff, ↓reduceIte, Int.reduceLT, Int.reduceLE, Int.reduceToNat, Int.reduceEq, Int.reduceNe, Nat.reduceAdd, UInt8.reduceOfNat, UInt16.reduceOfNat, UInt32.reduceOfNat, UInt64.reduceOfNat, UInt64.reduceToNat, UInt32.reduceToNat, UInt16.reduceToNat, UInt8.reduceToNat, Int.reduceAdd, Int.reduceSub, Int.reduceMul, Nat.reduceMul, Qp0, Ql0, Qe0]
      refine hCt.out.mono ?_
      rintro v hq ⟨rfl, hz⟩
      obtain rfl := hz.symm
      simp -dsimp -implicitDefEqProofs (disch := first | omega | assumption | (simp only [Option.isSome_some, Qt0]; done) | (simp only [UInt64.reduceToNat, UInt32.reduceToNat, UInt8.reduceToNat, List.length_cons, List.length_nil, List.length_append, Int.toNat_natCast] <;> omega)) only [Nat.reduceLT, Nat.reduceLeDiff, Nat.reduceEqDiff, ↓reduceIte, Int.reduceLT, Int.reduceLE, Int.reduceToNat, Int.reduceEq, Int.reduceNe, Nat.reduceAdd, UInt8.reduceOfNat, UInt16.reduceOfNat, UInt32.reduceOfNat, UInt64.reduceOfNat, UInt64.reduceToNat, UInt32.reduceToNat, UInt16.reduceToNat, UInt8.reduceToNat, Int.reduceAdd, Int.reduceSub, Int.reduceMul, Nat.reduceMul, Qp0, Ql0, Qe0, dx]
      refine hI.out.mono ?_
      rintro v hG2 ⟨rfl, hlG⟩
      simp -dsimp -implicitDefEqProofs (disch := first | omega | assumption | (simp only [Option.isSome_some, Qt0]; done) | (simp only [UInt64.reduceToNat, UInt32.reduceToNat, UInt8.reduceToNat, List.length_cons, List.length_nil, List.length_append, Int.toNat_natCast] <;> omega)) only [Nat.reduceLT, Nat.reduceLeDiff, Nat.reduceEqDiff, ↓reduceIte, Int.reduceLT, Int.reduceLE, Int.reduceToNat, Int.reduceEq, Int.reduceNe, Nat.reduceAdd, UInt8.reduceOfNat, UInt16.reduceOfNat, UInt32.reduceOfNat, UInt64.reduceOfNat, UInt64.reduceToNat, UInt32.reduceToNat, UInt16.reduceToNat, UInt8.reduceToNat, Int.reduceAdd, Int.reduceSub, Int.reduceMul, Nat.reduceMul, Qp0, Ql0, Qe0]
      exact ⟨_, hleF.trans hlG, by simp [hx0]⟩
set_option maxRecDepth 100000 in
theorem liftedTokenTurned (os : Os) (started : os.Started) (H : Type) (enc : TypeId × Value → H) :
    ReturnsInHanded {} Try.checked os 8 .any (Rows.tokenTurnedSpec.pre6 enc Try.prog Try.f8 Rows.tokenTurnedRow.domain false) (Rows.tokenTurnedSpec.post enc Try.prog Try.f8 false true false false) := by
  refine returnsInHanded_of_change_sized (C := Try.checked) own started (by kernel_rfl) Try.func8
    (ChangeSpec.witness6 (enc := enc) (C := Try.checked) false ⟨#[], #[.agg #[.string ⟨#[]⟩, .string ⟨#[]⟩, .int .i64 0, .int .i64 0, .int .i64 0, .slice none 0 0], .int .i64 0, .int .u8 0], []⟩ 8 (by kernel_rfl) (by kernel_rfl) (by kernel_rfl) (by kernel_rfl)) ?_
  intro W base args ds gs before hval0 hW _ hsz0 _
  have hsz : (DataW.weightsEach Try.prog (Try.f8.params.toList ++ Rows.tokenTurnedSpec.plain.varTypes Try.prog) (ds ++ gs)).all (· ≤ reachBytes) = true := hsz0
  have hval : ∀ (j : Nat) t v, Try.f8.params[j]? = some t → args[j]? = some v → Value.okWide Try.prog W .any base t v := hval0
  have hW' := hW
  obtain ⟨p, q, hA0, hV, rfl, _, _⟩ := hW
  have hA : DataW.TrodAll enc Try.prog W 0 (fun _ => true) true Try.f8.params.toList args.toList ds p := hA0
  rw [Try.params8] at hA hval hsz
  obtain ⟨v0, v1, v2, d0, d1, d2, p0, p1, p2, rfl, rfl, rfl, h0, h1, h2⟩ := trodAll_three hA
  obtain ⟨rfl, _⟩ := trodVars_none hV
  obtain ⟨c0, A0, cap0, rfl, hcap0, hrv0⟩ := open_clb (hval 0 _ v0 rfl rfl) h0
  obtain ⟨a1, rfl, rfl, rfl, w1⟩ := open_int Try.underlying3 (hval 1 _ v1 rfl rfl) h1
  obtain ⟨a2, rfl, rfl, rfl, w2⟩ := open_int Try.underlying5 (hval 2 _ v2 rfl rfl) h2
  refine (walk_TokenTurned c0 A0 cap0 a1 a2 W hcap0 hrv0 w1 w2).mono fun en W' ⟨he, hb⟩ => ?_
  subst he
  exact ⟨_, rfl, law_post (tb := 4) laidOut hW' rfl rfl rfl rfl Try.underlying4 (by intro t ht; revert t; exact of_decide_eq_true (by kernel_rfl)) (by kernel_rfl) hb⟩

theorem provedTokenTurned : Rows.TokenTurnedSaid :=
  OpenClaim.holds_of_wide 8 Try.f8 rfl rfl rfl rfl rfl rfl rfl ⟨rfl, rfl, rfl, rfl, rfl⟩ rfl rfl rfl rfl rfl (by kernel_rfl) Try.func8 (by kernel_rfl)
    (of_decide_eq_true (by kernel_rfl)) (by unfold Func.isWrapper; first | (rw [if_pos (by decide +kernel)]; kernel_rfl) | (rw [if_neg (by decide +kernel)]; exact ⟨rfl, rfl⟩))
    (fun os started H enc _ => liftedTokenTurned os started H enc)
#print axioms provedTokenTurned


end Go.Proofs.Ytdlaoeepeakpeaa.TkT
