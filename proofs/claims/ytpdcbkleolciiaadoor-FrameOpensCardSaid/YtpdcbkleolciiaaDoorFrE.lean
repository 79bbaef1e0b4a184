/- Walk of frame.Seal. -/
import Derived.Test.YtpdcbkleolciiaaDoorFrO
namespace Go.Proofs.YtpdcbkleolciiaaDoor
set_option linter.unusedVariables false
set_option linter.unusedSimpArgs false
open Go.RowKit Px
def frameT : List UInt8 := [102, 114, 97, 109, 101]
set_option maxRecDepth 20000 in
theorem seal_no (p : List UInt8) (hp : 8192 < p.length) (w0 : World) (h : PH) : PCalls Tryd.prog w0 7 [str p] h fun v h' => ∃ be, v = .tuple #[str [], errV be] ∧ h.top ≤ be ∧ h' = h.new be ⟨[str frameT, .int .i64 p.length, codeV 3], 3⟩ := by
  refine PCalls_body Tryd.func7 (by kernel_rfl) rfl _ Tryd.ntmps7 (by kernel_rfl) (by kernel_rfl) _ Tryd.results7 ?_
  have e1 : decide ((8192 : Int) < (p.length : Int)) = true := decide_eq_true (by omega)
  have hE := Lib.hid (@at_any frameT p.length 28 (.int .i64 3) w0 h)
  simp -dsimp -implicitDefEqProofs (disch := first | omega | assumption | (simp only [Option.isSome_some, Qt0]; done) | (simp only [UInt64.reduceToNat, UInt32.reduceToNat, UInt8.reduceToNat, List.length_cons, List.length_nil, List.length_append, Int.toNat_natCast] <;> omega)) only [Nat.reduceLT, Nat.reduceLeDiff, Nat.reduceEqDiff, ↓reduceIte, Int.reduceLT, Int.reduceLE, Int.reduceToNat, Int.reduceEq, Int.reduceNe, Nat.reduceAdd, UInt8.reduceOfNat, UInt16.reduceOfNat, UInt32.reduceOfNat, UInt64.reduceOfNat, UInt64.reduceToNat, UInt32.reduceToNat, UInt16.reduceToNat, UInt8.reduceToNat, Int.reduceAdd, Int.reduceSub, Int.reduceMul, Nat.reduceMul, Qp0, Ql0, Qe0, e1]
  refine hE.out.mono ?_
  rintro v hz ⟨be, rfl, hbe, rfl⟩
  simp -dsimp -implicitDefEqProofs (disch := first | omega | assumption | (simp only [Option.isSome_some, Qt0]; done) | (simp only [UInt64.reduceToNat, UInt32.reduceToNat, UInt8.reduceToNat, List.length_cons, List.length_nil, List.length_append, Int.toNat_natCast] <;> omega)) only [Nat.reduceLT, Nat.reduceLeDiff, Nat.reduceEqDiff, ↓reduceIte, Int.reduceLT, Int.reduceLE, Int.reduceToNat, Int.reduceEq, Int.reduceNe, Nat.reduceAdd, UInt8.reduceOfNat, UInt16.reduceOfNat, UInt32.reduceOfNat, UInt64.reduceOfNat, UInt64.reduceToNat, UInt32.reduceToNat, UInt16.reduceToNat, UInt8.reduceToNat, Int.reduceAdd, Int.reduceSub, Int.reduceMul, Nat.reduceMul, Qp0, Ql0, Qe0]
  exact ⟨_, PH.Le.refl _, be, rfl, hbe, rfl⟩
theorem head0 (n : Nat) : UInt8.ofInt ((n : Int) / 256) = UInt8.ofNat (n / 256) := by
  apply UInt8.toNat_inj.1
  simp [UInt8.ofInt]
  omega
theorem head1 (n : Nat) : UInt8.ofInt (n : Int) = UInt8.ofNat n := by
  apply UInt8.toNat_inj.1
  simp [UInt8.ofInt]
  omega
theorem enc_next (r : List UInt8) (i : Nat) (c : UInt8) (hc : r[i]? = some c) : bs (1 :: Fm.enc (r.take (i + 1))) = bs (1 :: Fm.enc (r.take i)) ++ bs [(64 : UInt8) ||| c >>> 4, (64 : UInt8) ||| c &&& 15] := by
  obtain ⟨h, e⟩ := List.getElem?_eq_some_iff.1 hc
  rw [List.take_succ_eq_append_getElem h, Fm.enc_append, e, ← bs_append]
  simp [Fm.enc, Fm.two]
set_option maxRecDepth 20000 in
set_option maxHeartbeats 1000000 in
theorem seal_ok (p : List UInt8) (hp : p.length ≤ 8192) (w0 : World) (h : PH) : PCalls Tryd.prog w0 7 [str p] h fun v h' => v = .tuple #[str (Fm.frame p), .nilIface] ∧ h' = h := by
  refine PCalls_body Tryd.func7 (by kernel_rfl) rfl _ Tryd.ntmps7 (by kernel_rfl) (by kernel_rfl) _ Tryd.results7 ?_
  have e1 : decide ((8192 : Int) < (p.length : Int)) = false := decide_eq_false (by omega)
  have p8 : (2 : Int) ^ (8 : Nat) = 256 := rfl
  have hh0 := head0 p.length
  have hh1 := head1 p.length
  simp -dsimp -implicitDefEqProofs (disch := first | omega | assumption | (simp only [Option.isSome_some, Qt0]; done) | (simp only [UInt64.reduceToNat, UInt32.reduceToNat, UInt8.reduceToNat, List.length_cons, List.length_nil, List.length_append, Int.toNat_natCast] <;> omega)) only [Nat.reduceLT, Nat.reduceLeDiff, Nat.reduceEqDiff, ↓reduceIte, Int.reduceLT, Int.reduceLE, Int.reduceToNat, Int.reduceEq, Int.reduceNe, Nat.reduceAdd, UInt8.reduceOfNat, UInt16.reduceOfNat, UInt32.reduceOfNat, UInt64.reduceOfNat, UInt64.reduceToNat, UInt32.reduceToNat, UInt16.reduceToNat, UInt8.reduceToNat, Int.reduceAdd, Int.reduceSub, Int.reduceMul, Nat.reduceMul, Qp0, Ql0, Qe0, e1, p8, hh0, hh1]
  refine Does_seq el_u8 (bs (Fm.head p.length)) rfl (fun v hv => by obtain ⟨_, _, rfl⟩ := List.mem_map.1 hv; exact ⟨rfl, rfl⟩) (by omega) (by omega) (fun b5 hb5 => ?_)
  have hrl := Fm.raw_length p
  have hraw : Fm.raw p = Fm.head p.length ++ Fm.four (Fm.sum (Fm.head p.length)) ++ p ++ Fm.four (Fm.sum (Fm.head p.length ++ p)) := rfl
  have hH2 : (Fm.head p.length).length = 2 := rfl
  generalize Fm.head p.length = H at *
  have hle1 : PH.Le h (h.new b5 ⟨bs H, 2⟩) := (PH.Le.refl h).new _ _ hb5
  have hm5 : (h.new b5 ⟨bs H, 2⟩).m b5 = some ⟨bs H, 2⟩ := by rw [PH.new_m, if_pos rfl]
  generalize h.new b5 ⟨bs H, 2⟩ = h1 at *
  have hlt5 := h1.lt _ _ hm5
  have hKH : Kn h1 (.slice (some ⟨b5, 0, none⟩) 2 2) (bs H) := by
    have := Kn.blk (h := h1) (b := b5) (c := 2) hm5 (by rw [bs_length]; omega)
    rwa [bs_length, hH2] at this
  simp -dsimp -implicitDefEqProofs (disch := first | omega | assumption | (simp only [Option.isSome_some, Qt0]; done) | (simp only [UInt64.reduceToNat, UInt32.reduceToNat, UInt8.reduceToNat, List.length_cons, List.length_nil, List.length_append, Int.toNat_natCast] <;> omega)) only [Nat.reduceLT, Nat.reduceLeDiff, Nat.reduceEqDiff, ↓reduceIte, Int.reduceLT, Int.reduceLE, Int.reduceToNat, Int.reduceEq, Int.reduceNe, Nat.reduceAdd, UInt8.reduceOfNat, UInt16.reduceOfNat, UInt32.reduceOfNat, UInt64.reduceOfNat, UInt64.reduceToNat, UInt32.reduceToNat, UInt16.reduceToNat, UInt8.reduceToNat, Int.reduceAdd, Int.reduceSub, Int.reduceMul, Nat.reduceMul, Qp0, Ql0, Qe0]
  refine PW_plan [0, 1, 2, 5, 3, 4, 6, 7] h1 (by kernel_rfl) (by decide +kernel) (by kernel_rfl) (by kernel_rfl) (by kernel_rfl) (fun c f h hq => by simp only [thenC_panic, thenK_panic, inBlk_panic, thenN_panic, vcRet_panic] at hq) (PH.Le.refl _).sub ?_
  simp -dsimp -implicitDefEqProofs (disch := first | omega | assumption | (simp only [Option.isSome_some, Qt0]; done) | (simp only [UInt64.reduceToNat, UInt32.reduceToNat, UInt8.reduceToNat, List.length_cons, List.length_nil, List.length_append, Int.toNat_natCast] <;> omega)) only [Nat.reduceLT, Nat.reduceLeDiff, Nat.reduceEqDiff, ↓reduceIte, Int.reduceLT, Int.reduceLE, Int.reduceToNat, Int.reduceEq, Int.reduceNe, Nat.reduceAdd, UInt8.reduceOfNat, UInt16.reduceOfNat, UInt32.reduceOfNat, UInt64.reduceOfNat, UInt64.reduceToNat, UInt32.reduceToNat, UInt16.reduceToNat, UInt8.reduceToNat, Int.reduceAdd, Int.reduceSub, Int.reduceMul, Nat.reduceMul, Qp0, Ql0, Qe0]
  refine (fsum_any H (by omega) _ w0 _ hKH).mono ?_
  rintro v h2 ⟨b6, rfl, hb6, rfl⟩
  have hF4 := Fm.four_length (Fm.sum H)
  generalize Fm.four (Fm.sum H) = F at *
  have hle2 : PH.Le h1 (h1.new b6 ⟨bs F, 4⟩) := (PH.Le.refl h1).new _ _ hb6
  have hm6 : (h1.new b6 ⟨bs F, 4⟩).m b6 = some ⟨bs F, 4⟩ := by rw [PH.new_m, if_pos rfl]
  generalize h1.new b6 ⟨bs F, 4⟩ = h2 at *
  simp -dsimp -implicitDefEqProofs (disch := first | omega | assumption | (simp only [Option.isSome_some, Qt0]; done) | (simp only [UInt64.reduceToNat, UInt32.reduceToNat, UInt8.reduceToNat, List.length_cons, List.length_nil, List.length_append, Int.toNat_natCast] <;> omega)) only [Nat.reduceLT, Nat.reduceLeDiff, Nat.reduceEqDiff, ↓reduceIte, Int.reduceLT, Int.reduceLE, Int.reduceToNat, Int.reduceEq, Int.reduceNe, Nat.reduceAdd, UInt8.reduceOfNat, UInt16.reduceOfNat, UInt32.reduceOfNat, UInt64.reduceOfNat, UInt64.reduceToNat, UInt32.reduceToNat, UInt16.reduceToNat, UInt8.reduceToNat, Int.reduceAdd, Int.reduceSub, Int.reduceMul, Nat.reduceMul, Qp0, Ql0, Qe0]
  refine ⟨hle2.sub, ?_⟩
  simp -dsimp -implicitDefEqProofs (disch := first | omega | assumption | (simp only [Option.isSome_some, Qt0]; done) | (simp only [UInt64.reduceToNat, UInt32.reduceToNat, UInt8.reduceToNat, List.length_cons, List.length_nil, List.length_append, Int.toNat_natCast] <;> omega)) only [Nat.reduceLT, Nat.reduceLeDiff, Nat.reduceEqDiff, ↓reduceIte, Int.reduceLT, Int.reduceLE, Int.reduceToNat, Int.reduceEq, Int.reduceNe, Nat.reduceAdd, UInt8.reduceOfNat, UInt16.reduceOfNat, UInt32.reduceOfNat, UInt64.reduceOfNat, UInt64.reduceToNat, UInt32.reduceToNat, UInt16.reduceToNat, UInt8.reduceToNat, Int.reduceAdd, Int.reduceSub, Int.reduceMul, Nat.reduceMul, Qp0, Ql0, Qe0]
  refine Does_grow el_u8 (n := 2) (m := 4) (xs := bs H) (ys := bs F) ?_ (Rs.blk (k := ⟨bs F, 4⟩) hm6 (by simp only [bs_length]; omega)) (by omega) (by omega) (by unfold maxLen; omega) (by omega) (fun b7 c7 hb7 hc7 hm7 => ?_)
  · exact rdN_known (hle2.m _ _ hm5) (by simp only [bs_length]; omega)
  have how : OwnS h1 (h2.new b7 ⟨bs H ++ bs F, c7 * 1⟩) 1 (.slice (some ⟨b7, 0, none⟩) 6 c7) 6 (bs (H ++ F)) := by
    refine ⟨hle2.new _ _ (Nat.le_trans hle2.top hb7), ⟨by rw [bs_length, List.length_append]; omega, .inr ⟨b7, c7, rfl, hc7, hm7, by rw [PH.new_m, if_pos rfl, bs_append]⟩⟩, fun x e => by cases e; exact Nat.le_trans hle2.top hb7⟩
  generalize h2.new b7 ⟨bs H ++ bs F, c7 * 1⟩ = h3 at *
  simp -dsimp -implicitDefEqProofs (disch := first | omega | assumption | (simp only [Option.isSome_some, Qt0]; done) | (simp only [UInt64.reduceToNat, UInt32.reduceToNat, UInt8.reduceToNat, List.length_cons, List.length_nil, List.length_append, Int.toNat_natCast] <;> omega)) only [Nat.reduceLT, Nat.reduceLeDiff, Nat.reduceEqDiff, ↓reduceIte, Int.reduceLT, Int.reduceLE, Int.reduceToNat, Int.reduceEq, Int.reduceNe, Nat.reduceAdd, UInt8.reduceOfNat, UInt16.reduceOfNat, UInt32.reduceOfNat, UInt64.reduceOfNat, UInt64.reduceToNat, UInt32.reduceToNat, UInt16.reduceToNat, UInt8.reduceToNat, Int.reduceAdd, Int.reduceSub, Int.reduceMul, Nat.reduceMul, Qp0, Ql0, Qe0]
  refine ⟨how.le.sub, ?_⟩
  simp -dsimp -implicitDefEqProofs (disch := first | omega | assumption | (simp only [Option.isSome_some, Qt0]; done) | (simp only [UInt64.reduceToNat, UInt32.reduceToNat, UInt8.reduceToNat, List.length_cons, List.length_nil, List.length_append, Int.toNat_natCast] <;> omega)) only [Nat.reduceLT, Nat.reduceLeDiff, Nat.reduceEqDiff, ↓reduceIte, Int.reduceLT, Int.reduceLE, Int.reduceToNat, Int.reduceEq, Int.reduceNe, Nat.reduceAdd, UInt8.reduceOfNat, UInt16.reduceOfNat, UInt32.reduceOfNat, UInt64.reduceOfNat, UInt64.reduceToNat, UInt32.reduceToNat, UInt16.reduceToNat, UInt8.reduceToNat, Int.reduceAdd, Int.reduceSub, Int.reduceMul, Nat.reduceMul, Qp0, Ql0, Qe0]
  refine Does_appT el_u8 Tryd.underlying9 how.own (by omega) (fun v4 h4 ho hst hsb => ?_)
  have how4 := how.stays hst ho
  rw [← bs_append] at how4
  clear ho hst hsb how hm6 hb6 hb7
  simp -dsimp -implicitDefEqProofs (disch := first | omega | assumption | (simp only [Option.isSome_some, Qt0]; done) | (simp only [UInt64.reduceToNat, UInt32.reduceToNat, UInt8.reduceToNat, List.length_cons, List.length_nil, List.length_append, Int.toNat_natCast] <;> omega)) only [Nat.reduceLT, Nat.reduceLeDiff, Nat.reduceEqDiff, ↓reduceIte, Int.reduceLT, Int.reduceLE, Int.reduceToNat, Int.reduceEq, Int.reduceNe, Nat.reduceAdd, UInt8.reduceOfNat, UInt16.reduceOfNat, UInt32.reduceOfNat, UInt64.reduceOfNat, UInt64.reduceToNat, UInt32.reduceToNat, UInt16.reduceToNat, UInt8.reduceToNat, Int.reduceAdd, Int.reduceSub, Int.reduceMul, Nat.reduceMul, Qp0, Ql0, Qe0]
  refine ⟨how4.le.sub, ?_⟩
  simp -dsimp -implicitDefEqProofs (disch := first | omega | assumption | (simp only [Option.isSome_some, Qt0]; done) | (simp only [UInt64.reduceToNat, UInt32.reduceToNat, UInt8.reduceToNat, List.length_cons, List.length_nil, List.length_append, Int.toNat_natCast] <;> omega)) only [Nat.reduceLT, Nat.reduceLeDiff, Nat.reduceEqDiff, ↓reduceIte, Int.reduceLT, Int.reduceLE, Int.reduceToNat, Int.reduceEq, Int.reduceNe, Nat.reduceAdd, UInt8.reduceOfNat, UInt16.reduceOfNat, UInt32.reduceOfNat, UInt64.reduceOfNat, UInt64.reduceToNat, UInt32.reduceToNat, UInt16.reduceToNat, UInt8.reduceToNat, Int.reduceAdd, Int.reduceSub, Int.reduceMul, Nat.reduceMul, Qp0, Ql0, Qe0]
  have hm54 := how4.le.m _ _ hm5
  refine Does_catT el_u8 Tryd.underlying9 (X := bs H) (xs := bs H) hm54 (by rw [bs_length]; omega) (by rw [List.drop_zero, List.take_of_length_le (by rw [bs_length]; omega)]) (by omega) (fun v5 h5 hk5 hle5 => ?_)
  rw [← bs_append] at hk5
  have how5 := how4.more hle5
  simp -dsimp -implicitDefEqProofs (disch := first | omega | assumption | (simp only [Option.isSome_some, Qt0]; done) | (simp only [UInt64.reduceToNat, UInt32.reduceToNat, UInt8.reduceToNat, List.length_cons, List.length_nil, List.length_append, Int.toNat_natCast] <;> omega)) only [Nat.reduceLT, Nat.reduceLeDiff, Nat.reduceEqDiff, ↓reduceIte, Int.reduceLT, Int.reduceLE, Int.reduceToNat, Int.reduceEq, Int.reduceNe, Nat.reduceAdd, UInt8.reduceOfNat, UInt16.reduceOfNat, UInt32.reduceOfNat, UInt64.reduceOfNat, UInt64.reduceToNat, UInt32.reduceToNat, UInt16.reduceToNat, UInt8.reduceToNat, Int.reduceAdd, Int.reduceSub, Int.reduceMul, Nat.reduceMul, Qp0, Ql0, Qe0]
  refine (fsum_any (H ++ p) (by rw [List.length_append]; omega) _ w0 _ hk5).mono ?_
  rintro v h6 ⟨b8, rfl, hb8, rfl⟩
  have hF5 := Fm.four_length (Fm.sum (H ++ p))
  generalize Fm.four (Fm.sum (H ++ p)) = F2 at *
  simp -dsimp -implicitDefEqProofs (disch := first | omega | assumption | (simp only [Option.isSome_some, Qt0]; done) | (simp only [UInt64.reduceToNat, UInt32.reduceToNat, UInt8.reduceToNat, List.length_cons, List.length_nil, List.length_append, Int.toNat_natCast] <;> omega)) only [Nat.reduceLT, Nat.reduceLeDiff, Nat.reduceEqDiff, ↓reduceIte, Int.reduceLT, Int.reduceLE, Int.reduceToNat, Int.reduceEq, Int.reduceNe, Nat.reduceAdd, UInt8.reduceOfNat, UInt16.reduceOfNat, UInt32.reduceOfNat, UInt64.reduceOfNat, UInt64.reduceToNat, UInt32.reduceToNat, UInt16.reduceToNat, UInt8.reduceToNat, Int.reduceAdd, Int.reduceSub, Int.reduceMul, Nat.reduceMul, Qp0, Ql0, Qe0]
  have how6 := how5.more ((PH.Le.refl _).new b8 ⟨bs F2, 4⟩ hb8)
  refine Does_app el_u8 how6.own (Rs.blk (k := ⟨bs F2, 4⟩) (by rw [PH.new_m, if_pos rfl]) (by simp only [bs_length]; omega)) (bs_one _) (by unfold maxLen; omega) (by omega) (fun v7 h7 ho hst => ?_)
  have how7 := how6.stays hst ho
  rw [← bs_append] at how7
  clear ho hst how6 how5 how4 hk5
  have hRl : 6 + p.length + 4 = (Fm.raw p).length := by omega
  rw [hRl, ← hraw] at how7
  clear hraw hRl
  obtain ⟨R, hR⟩ : ∃ R, R = Fm.raw p := ⟨_, rfl⟩
  have hfr : Fm.frame p = 1 :: Fm.enc R := by rw [hR]; rfl
  rw [hfr]
  rw [← hR] at how7 hrl
  clear hfr hR
  obtain ⟨bR, cR, rfl, hcR, hmR⟩ := how7.own.pos (by omega)
  have hle7 := hle1.trans how7.le
  simp -dsimp -implicitDefEqProofs (disch := first | omega | assumption | (simp only [Option.isSome_some, Qt0]; done) | (simp only [UInt64.reduceToNat, UInt32.reduceToNat, UInt8.reduceToNat, List.length_cons, List.length_nil, List.length_append, Int.toNat_natCast] <;> omega)) only [Nat.reduceLT, Nat.reduceLeDiff, Nat.reduceEqDiff, ↓reduceIte, Int.reduceLT, Int.reduceLE, Int.reduceToNat, Int.reduceEq, Int.reduceNe, Nat.reduceAdd, UInt8.reduceOfNat, UInt16.reduceOfNat, UInt32.reduceOfNat, UInt64.reduceOfNat, UInt64.reduceToNat, UInt32.reduceToNat, UInt16.reduceToNat, UInt8.reduceToNat, Int.reduceAdd, Int.reduceSub, Int.reduceMul, Nat.reduceMul, Qp0, Ql0, Qe0]
  refine Does_one (v := u8 1) el_u8 rfl (by omega) (fun b9 hb9 => ?_)
  have hown : OwnS h7 (h7.new b9 ⟨[u8 1], 1⟩) 1 (.slice (some ⟨b9, 0, none⟩) 1 1) (1 + 2 * 0) (bs (1 :: Fm.enc (R.take 0))) := ⟨(PH.Le.refl h7).new _ _ hb9, ⟨rfl, .inr ⟨b9, 1, rfl, Nat.le_refl _, by unfold maxLen; omega, by rw [PH.new_m, if_pos rfl]; rfl⟩⟩, fun x e => by cases e; exact hb9⟩
  have hcell : (u8 1).cells.toList = [u8 1] := rfl
  rw [hcell]
  generalize h7.new b9 ⟨[u8 1], 1⟩ = h8 at *
  simp -dsimp -implicitDefEqProofs (disch := first | omega | assumption | (simp only [Option.isSome_some, Qt0]; done) | (simp only [UInt64.reduceToNat, UInt32.reduceToNat, UInt8.reduceToNat, List.length_cons, List.length_nil, List.length_append, Int.toNat_natCast] <;> omega)) only [Nat.reduceLT, Nat.reduceLeDiff, Nat.reduceEqDiff, ↓reduceIte, Int.reduceLT, Int.reduceLE, Int.reduceToNat, Int.reduceEq, Int.reduceNe, Nat.reduceAdd, UInt8.reduceOfNat, UInt16.reduceOfNat, UInt32.reduceOfNat, UInt64.reduceOfNat, UInt64.reduceToNat, UInt32.reduceToNat, UInt16.reduceToNat, UInt8.reduceToNat, Int.reduceAdd, Int.reduceSub, Int.reduceMul, Nat.reduceMul, Qp0, Ql0, Qe0]
  refine PW_loop (fun n f h' => ∃ (i : Nat) (v : Value), i + n = R.length ∧ f 7 = some v ∧ f 38 = some (.slice (some ⟨bR, 0, none⟩) R.length cR) ∧ f 39 = some (.int .i64 R.length) ∧ f 40 = some (.int .i64 i) ∧ OwnS h7 h' 1 v (1 + 2 * i) (bs (1 :: Fm.enc (R.take i)))) (by kernel_rfl) R.length ⟨0, _, by omega, ?_, ?_, ?_, ?_, hown⟩ ?_
  · simp -dsimp -implicitDefEqProofs (disch := first | omega | assumption | (simp only [Option.isSome_some, Qt0]; done) | (simp only [UInt64.reduceToNat, UInt32.reduceToNat, UInt8.reduceToNat, List.length_cons, List.length_nil, List.length_append, Int.toNat_natCast] <;> omega)) only [Nat.reduceLT, Nat.reduceLeDiff, Nat.reduceEqDiff, ↓reduceIte, Int.reduceLT, Int.reduceLE, Int.reduceToNat, Int.reduceEq, Int.reduceNe, Nat.reduceAdd, UInt8.reduceOfNat, UInt16.reduceOfNat, UInt32.reduceOfNat, UInt64.reduceOfNat, UInt64.reduceToNat, UInt32.reduceToNat, UInt16.reduceToNat, UInt8.reduceToNat, Int.reduceAdd, Int.reduceSub, Int.reduceMul, Nat.reduceMul, Qp0, Ql0, Qe0]
  · simp -dsimp -implicitDefEqProofs (disch := first | omega | assumption | (simp only [Option.isSome_some, Qt0]; done) | (simp only [UInt64.reduceToNat, UInt32.reduceToNat, UInt8.reduceToNat, List.length_cons, List.length_nil, List.length_append, Int.toNat_natCast] <;> omega)) only [Nat.reduceLT, Nat.reduceLeDiff, Nat.reduceEqDiff, ↓reduceIte, Int.reduceLT, Int.reduceLE, Int.reduceToNat, Int.reduceEq, Int.reduceNe, Nat.reduceAdd, UInt8.reduceOfNat, UInt16.reduceOfNat, UInt32.reduceOfNat, UInt64.reduceOfNat, UInt64.reduceToNat, UInt32.reduceToNat, UInt16.reduceToNat, UInt8.reduceToNat, Int.reduceAdd, Int.reduceSub, Int.reduceMul, Nat.reduceMul, Qp0, Ql0, Qe0]
  · simp -dsimp -implicitDefEqProofs (disch := first | omega | assumption | (simp only [Option.isSome_some, Qt0]; done) | (simp only [UInt64.reduceToNat, UInt32.reduceToNat, UInt8.reduceToNat, List.length_cons, List.length_nil, List.length_append, Int.toNat_natCast] <;> omega)) only [Nat.reduceLT, Nat.reduceLeDiff, Nat.reduceEqDiff, ↓reduceIte, Int.reduceLT, Int.reduceLE, Int.reduceToNat, Int.reduceEq, Int.reduceNe, Nat.reduceAdd, UInt8.reduceOfNat, UInt16.reduceOfNat, UInt32.reduceOfNat, UInt64.reduceOfNat, UInt64.reduceToNat, UInt32.reduceToNat, UInt16.reduceToNat, UInt8.reduceToNat, Int.reduceAdd, Int.reduceSub, Int.reduceMul, Nat.reduceMul, Qp0, Ql0, Qe0]
  · simp -dsimp -implicitDefEqProofs (disch := first | omega | assumption | (simp only [Option.isSome_some, Qt0]; done) | (simp only [UInt64.reduceToNat, UInt32.reduceToNat, UInt8.reduceToNat, List.length_cons, List.length_nil, List.length_append, Int.toNat_natCast] <;> omega)) only [Nat.reduceLT, Nat.reduceLeDiff, Nat.reduceEqDiff, ↓reduceIte, Int.reduceLT, Int.reduceLE, Int.reduceToNat, Int.reduceEq, Int.reduceNe, Nat.reduceAdd, UInt8.reduceOfNat, UInt16.reduceOfNat, UInt32.reduceOfNat, UInt64.reduceOfNat, UInt64.reduceToNat, UInt32.reduceToNat, UInt16.reduceToNat, UInt8.reduceToNat, Int.reduceAdd, Int.reduceSub, Int.reduceMul, Nat.reduceMul, Qp0, Ql0, Qe0]
    try rfl
  clear hown
  rintro n f h9 ⟨i, v, hin, f7, f38, f39, f40, how⟩
  by_cases hi : i < R.length
  · have e2 : decide ((i : Int) < (R.length : Int)) = true := decide_eq_true (by omega)
    obtain ⟨c, hc⟩ : ∃ c, R[i]? = some c := ⟨_, List.getElem?_eq_getElem hi⟩
    have hc' : (bs R)[i]? = some (u8 c) := by simp [bs, hc]
    have hnx := enc_next R i c hc
    have hmR9 := how.le.m _ _ hmR
    simp -dsimp -implicitDefEqProofs (disch := first | omega | assumption | (simp only [Option.isSome_some, Qt0]; done) | (simp only [UInt64.reduceToNat, UInt32.reduceToNat, UInt8.reduceToNat, List.length_cons, List.length_nil, List.length_append, Int.toNat_natCast] <;> omega)) only [Nat.reduceLT, Nat.reduceLeDiff, Nat.reduceEqDiff, ↓reduceIte, Int.reduceLT, Int.reduceLE, Int.reduceToNat, Int.reduceEq, Int.reduceNe, Nat.reduceAdd, UInt8.reduceOfNat, UInt16.reduceOfNat, UInt32.reduceOfNat, UInt64.reduceOfNat, UInt64.reduceToNat, UInt32.reduceToNat, UInt16.reduceToNat, UInt8.reduceToNat, Int.reduceAdd, Int.reduceSub, Int.reduceMul, Nat.reduceMul, Qp0, Ql0, Qe0, f7, f38, f39, f40, e2, rd_M, rdM_some, hmR9, hc']
    refine Does_seq el_u8 (bs [(64 : UInt8) ||| c >>> 4, (64 : UInt8) ||| c &&& 15]) rfl (fun v hv => by obtain ⟨_, _, rfl⟩ := List.mem_map.1 hv; exact ⟨rfl, rfl⟩) (by omega) (by omega) (fun gb hgb => ?_)
    simp -dsimp -implicitDefEqProofs (disch := first | omega | assumption | (simp only [Option.isSome_some, Qt0]; done) | (simp only [UInt64.reduceToNat, UInt32.reduceToNat, UInt8.reduceToNat, List.length_cons, List.length_nil, List.length_append, Int.toNat_natCast] <;> omega)) only [Nat.reduceLT, Nat.reduceLeDiff, Nat.reduceEqDiff, ↓reduceIte, Int.reduceLT, Int.reduceLE, Int.reduceToNat, Int.reduceEq, Int.reduceNe, Nat.reduceAdd, UInt8.reduceOfNat, UInt16.reduceOfNat, UInt32.reduceOfNat, UInt64.reduceOfNat, UInt64.reduceToNat, UInt32.reduceToNat, UInt16.reduceToNat, UInt8.reduceToNat, Int.reduceAdd, Int.reduceSub, Int.reduceMul, Nat.reduceMul, Qp0, Ql0, Qe0, f7, f38, f39, f40]
    refine Does_app el_u8 (how.more ((PH.Le.refl _).new _ _ hgb)).own (Rs.blk (k := ⟨bs [(64 : UInt8) ||| c >>> 4, (64 : UInt8) ||| c &&& 15], 2⟩) (by rw [PH.new_m, if_pos rfl]) rfl) (bs_one _) (by unfold maxLen; omega) (by omega) (fun v10 h10 ho hst => ?_)
    have how10 := (how.more ((PH.Le.refl _).new _ _ hgb)).stays hst ho
    rw [← hnx] at how10
    simp -dsimp -implicitDefEqProofs (disch := first | omega | assumption | (simp only [Option.isSome_some, Qt0]; done) | (simp only [UInt64.reduceToNat, UInt32.reduceToNat, UInt8.reduceToNat, List.length_cons, List.length_nil, List.length_append, Int.toNat_natCast] <;> omega)) only [Nat.reduceLT, Nat.reduceLeDiff, Nat.reduceEqDiff, ↓reduceIte, Int.reduceLT, Int.reduceLE, Int.reduceToNat, Int.reduceEq, Int.reduceNe, Nat.reduceAdd, UInt8.reduceOfNat, UInt16.reduceOfNat, UInt32.reduceOfNat, UInt64.reduceOfNat, UInt64.reduceToNat, UInt32.reduceToNat, UInt16.reduceToNat, UInt8.reduceToNat, Int.reduceAdd, Int.reduceSub, Int.reduceMul, Nat.reduceMul, Qp0, Ql0, Qe0, f7, f38, f39, f40]
    refine ⟨n - 1, h10, by omega, PH.Le.refl _, i + 1, v10, by omega, by trivial, by trivial, by trivial, by simp, ?_⟩
    rw [show 1 + 2 * (i + 1) = 1 + 2 * i + 2 by omega]
    exact how10
  · obtain rfl : i = R.length := by omega
    have e2 : decide ((R.length : Int) < (R.length : Int)) = false := decide_eq_false (by omega)
    rw [List.take_length] at how
    obtain ⟨A, c2, rfl, hc2⟩ := how.own.len
    simp -dsimp -implicitDefEqProofs (disch := first | omega | assumption | (simp only [Option.isSome_some, Qt0]; done) | (simp only [UInt64.reduceToNat, UInt32.reduceToNat, UInt8.reduceToNat, List.length_cons, List.length_nil, List.length_append, Int.toNat_natCast] <;> omega)) only [Nat.reduceLT, Nat.reduceLeDiff, Nat.reduceEqDiff, ↓reduceIte, Int.reduceLT, Int.reduceLE, Int.reduceToNat, Int.reduceEq, Int.reduceNe, Nat.reduceAdd, UInt8.reduceOfNat, UInt16.reduceOfNat, UInt32.reduceOfNat, UInt64.reduceOfNat, UInt64.reduceToNat, UInt32.reduceToNat, UInt16.reduceToNat, UInt8.reduceToNat, Int.reduceAdd, Int.reduceSub, Int.reduceMul, Nat.reduceMul, Qp0, Ql0, Qe0, f7, f38, f39, f40, e2]
    refine vtext_own Tryd.underlying41 Tryd.underlying5 Tryd.underlying9 (Rs.own how.own) how.own.nil_zero ?_
    simp -dsimp -implicitDefEqProofs (disch := first | omega | assumption | (simp only [Option.isSome_some, Qt0]; done) | (simp only [UInt64.reduceToNat, UInt32.reduceToNat, UInt8.reduceToNat, List.length_cons, List.length_nil, List.length_append, Int.toNat_natCast] <;> omega)) only [Nat.reduceLT, Nat.reduceLeDiff, Nat.reduceEqDiff, ↓reduceIte, Int.reduceLT, Int.reduceLE, Int.reduceToNat, Int.reduceEq, Int.reduceNe, Nat.reduceAdd, UInt8.reduceOfNat, UInt16.reduceOfNat, UInt32.reduceOfNat, UInt64.reduceOfNat, UInt64.reduceToNat, UInt32.reduceToNat, UInt16.reduceToNat, UInt8.reduceToNat, Int.reduceAdd, Int.reduceSub, Int.reduceMul, Nat.reduceMul, Qp0, Ql0, Qe0]
    exact ⟨_, hle7.trans how.le, by trivial, rfl⟩
end Go.Proofs.YtpdcbkleolciiaaDoor
