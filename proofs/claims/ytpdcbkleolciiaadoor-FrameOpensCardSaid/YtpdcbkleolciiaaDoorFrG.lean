/- Walks of the reference's Four, Raw and Seal. No condition. -/
import Derived.Test.YtpdcbkleolciiaaDoorFrC
import Derived.Test.YtpdcbkleolciiaaDoorFrE
namespace Go.Proofs.YtpdcbkleolciiaaDoor
set_option linter.unusedVariables false
set_option linter.unusedSimpArgs false
open Go.RowKit Px
theorem OwnS_from {h0 h1 h : PH} {sz n : Nat} {v : Value} {xs : List Value} (o : OwnS h1 h sz v n xs) (l : PH.Le h0 h1) : OwnS h0 h sz v n xs := ⟨l.trans o.le, o.own, fun x e => Nat.le_trans l.top (o.new x e)⟩
theorem by0 (s : UInt32) : (s % 256).toUInt8 = s.toUInt8 := by
  apply UInt8.toNat_inj.1
  simp
theorem by1 (s : UInt32) : (s / 256 % 256).toUInt8 = (s >>> 8).toUInt8 := by
  apply UInt8.toNat_inj.1
  simp [Nat.shiftRight_eq_div_pow]
theorem by2 (s : UInt32) : (s / 65536 % 256).toUInt8 = (s >>> 16).toUInt8 := by
  apply UInt8.toNat_inj.1
  simp [Nat.shiftRight_eq_div_pow]
theorem by3 (s : UInt32) : (s / 16777216).toUInt8 = (s >>> 24).toUInt8 := by
  apply UInt8.toNat_inj.1
  simp [Nat.shiftRight_eq_div_pow]
theorem head1m (n : Nat) : UInt8.ofInt ((n : Int) % 256) = UInt8.ofNat n := by
  apply UInt8.toNat_inj.1
  simp [UInt8.ofInt]
  omega
theorem hi_add (c : UInt8) : (64 : UInt8) + c / (16 : UInt8) = (64 : UInt8) ||| c >>> 4 := Fm.all8 (p := fun c => (64 : UInt8) + c / (16 : UInt8) = (64 : UInt8) ||| c >>> 4) (by decide +kernel) c
theorem lo_add (c : UInt8) : (64 : UInt8) + c % (16 : UInt8) = (64 : UInt8) ||| c &&& 15 := Fm.all8 (p := fun c => (64 : UInt8) + c % (16 : UInt8) = (64 : UInt8) ||| c &&& 15) (by decide +kernel) c
set_option maxRecDepth 20000 in
theorem rfour_any (s : UInt32) (w0 : World) (h : PH) : PCalls Tryd.prog w0 26 [u32 s] h fun v h' => ∃ b, v = .slice (some ⟨b, 0, none⟩) 4 4 ∧ h.top ≤ b ∧ h' = h.new b ⟨bs (Fm.four s), 4⟩ := by
  refine PCalls_body Tryd.func26 (by kernel_rfl) rfl _ Tryd.ntmps26 (by kernel_rfl) (by kernel_rfl) _ Tryd.results26 ?_
  have b0 := by0 s
  have b1 := by1 s
  have b2 := by2 s
  have b3 := by3 s
  simp -dsimp -implicitDefEqProofs (disch := first | omega | assumption | (simp only [Option.isSome_some, Qt0]; done) | (simp only [UInt64.reduceToNat, UInt32.reduceToNat, UInt8.reduceToNat, List.length_cons, List.length_nil, List.length_append, Int.toNat_natCast] <;> omega)) only [Nat.reduceLT, Nat.reduceLeDiff, Nat.reduceEqDiff, ↓reduceIte, Int.reduceLT, Int.reduceLE, Int.reduceToNat, Int.reduceEq, Int.reduceNe, Nat.reduceAdd, UInt8.reduceOfNat, UInt16.reduceOfNat, UInt32.reduceOfNat, UInt64.reduceOfNat, UInt64.reduceToNat, UInt32.reduceToNat, UInt16.reduceToNat, UInt8.reduceToNat, Int.reduceAdd, Int.reduceSub, Int.reduceMul, Nat.reduceMul, Qp0, Ql0, Qe0, b0, b1, b2, b3]
  refine Does_seq el_u8 (bs (Fm.four s)) rfl (fun v hv => by obtain ⟨_, _, rfl⟩ := List.mem_map.1 hv; exact ⟨rfl, rfl⟩) (by omega) (by omega) (fun b hb => ?_)
  generalize Fm.four s = F at *
  simp -dsimp -implicitDefEqProofs (disch := first | omega | assumption | (simp only [Option.isSome_some, Qt0]; done) | (simp only [UInt64.reduceToNat, UInt32.reduceToNat, UInt8.reduceToNat, List.length_cons, List.length_nil, List.length_append, Int.toNat_natCast] <;> omega)) only [Nat.reduceLT, Nat.reduceLeDiff, Nat.reduceEqDiff, ↓reduceIte, Int.reduceLT, Int.reduceLE, Int.reduceToNat, Int.reduceEq, Int.reduceNe, Nat.reduceAdd, UInt8.reduceOfNat, UInt16.reduceOfNat, UInt32.reduceOfNat, UInt64.reduceOfNat, UInt64.reduceToNat, UInt32.reduceToNat, UInt16.reduceToNat, UInt8.reduceToNat, Int.reduceAdd, Int.reduceSub, Int.reduceMul, Nat.reduceMul, Qp0, Ql0, Qe0]
  exact ⟨_, PH.Le.refl _, b, rfl, hb, rfl⟩
set_option maxRecDepth 20000 in
set_option maxHeartbeats 1000000 in
theorem rraw_any (p : List UInt8) (hp : p.length ≤ 10000) (w0 : World) (h : PH) : PCalls Tryd.prog w0 18 [str p] h fun v h' => OwnS h h' 1 v (p.length + 10) (bs (Fm.raw p)) := by
  refine PCalls_body Tryd.func18 (by kernel_rfl) rfl _ Tryd.ntmps18 (by kernel_rfl) (by kernel_rfl) _ Tryd.results18 ?_
  have hh0 := head0 p.length
  have hh1 := head1m p.length
  simp -dsimp -implicitDefEqProofs (disch := first | omega | assumption | (simp only [Option.isSome_some, Qt0]; done) | (simp only [UInt64.reduceToNat, UInt32.reduceToNat, UInt8.reduceToNat, List.length_cons, List.length_nil, List.length_append, Int.toNat_natCast] <;> omega)) only [Nat.reduceLT, Nat.reduceLeDiff, Nat.reduceEqDiff, ↓reduceIte, Int.reduceLT, Int.reduceLE, Int.reduceToNat, Int.reduceEq, Int.reduceNe, Nat.reduceAdd, UInt8.reduceOfNat, UInt16.reduceOfNat, UInt32.reduceOfNat, UInt64.reduceOfNat, UInt64.reduceToNat, UInt32.reduceToNat, UInt16.reduceToNat, UInt8.reduceToNat, Int.reduceAdd, Int.reduceSub, Int.reduceMul, Nat.reduceMul, Qp0, Ql0, Qe0, hh0, hh1]
  refine Does_seq el_u8 (bs (Fm.head p.length)) rfl (fun v hv => by obtain ⟨_, _, rfl⟩ := List.mem_map.1 hv; exact ⟨rfl, rfl⟩) (by omega) (by omega) (fun b5 hb5 => ?_)
  have hraw : Fm.raw p = Fm.head p.length ++ Fm.four (Fm.sum (Fm.head p.length)) ++ p ++ Fm.four (Fm.sum (Fm.head p.length ++ p)) := rfl
  have hH2 : (Fm.head p.length).length = 2 := rfl
  rw [hraw]
  clear hraw hh0 hh1
  generalize Fm.head p.length = H at *
  have hle1 : PH.Le h (h.new b5 ⟨bs H, 2⟩) := (PH.Le.refl h).new _ _ hb5
  have hm5 : (h.new b5 ⟨bs H, 2⟩).m b5 = some ⟨bs H, 2⟩ := by rw [PH.new_m, if_pos rfl]
  generalize h.new b5 ⟨bs H, 2⟩ = h1 at *
  have hKH : Kn h1 (.slice (some ⟨b5, 0, none⟩) 2 2) (bs H) := by
    have := Kn.blk (h := h1) (b := b5) (c := 2) hm5 (by rw [bs_length]; omega)
    rwa [bs_length, hH2] at this
  simp -dsimp -implicitDefEqProofs (disch := first | omega | assumption | (simp only [Option.isSome_some, Qt0]; done) | (simp only [UInt64.reduceToNat, UInt32.reduceToNat, UInt8.reduceToNat, List.length_cons, List.length_nil, List.length_append, Int.toNat_natCast] <;> omega)) only [Nat.reduceLT, Nat.reduceLeDiff, Nat.reduceEqDiff, ↓reduceIte, Int.reduceLT, Int.reduceLE, Int.reduceToNat, Int.reduceEq, Int.reduceNe, Nat.reduceAdd, UInt8.reduceOfNat, UInt16.reduceOfNat, UInt32.reduceOfNat, UInt64.reduceOfNat, UInt64.reduceToNat, UInt32.reduceToNat, UInt16.reduceToNat, UInt8.reduceToNat, Int.reduceAdd, Int.reduceSub, Int.reduceMul, Nat.reduceMul, Qp0, Ql0, Qe0]
  refine Does_zero el_u8 (fun b6 hb6 => ?_)
  have how := OwnS.zero (h := h1) 1 hb6
  generalize h1.new b6 ⟨[], 0⟩ = h2 at *
  simp -dsimp -implicitDefEqProofs (disch := first | omega | assumption | (simp only [Option.isSome_some, Qt0]; done) | (simp only [UInt64.reduceToNat, UInt32.reduceToNat, UInt8.reduceToNat, List.length_cons, List.length_nil, List.length_append, Int.toNat_natCast] <;> omega)) only [Nat.reduceLT, Nat.reduceLeDiff, Nat.reduceEqDiff, ↓reduceIte, Int.reduceLT, Int.reduceLE, Int.reduceToNat, Int.reduceEq, Int.reduceNe, Nat.reduceAdd, UInt8.reduceOfNat, UInt16.reduceOfNat, UInt32.reduceOfNat, UInt64.reduceOfNat, UInt64.reduceToNat, UInt32.reduceToNat, UInt16.reduceToNat, UInt8.reduceToNat, Int.reduceAdd, Int.reduceSub, Int.reduceMul, Nat.reduceMul, Qp0, Ql0, Qe0]
  refine Does_app el_u8 how.own (Rs.blk (k := ⟨bs H, 2⟩) (how.le.m _ _ hm5) (by simp only [bs_length]; omega)) (bs_one _) (by unfold maxLen; omega) (by omega) (fun v3 h3 ho hst => ?_)
  have how3 := how.stays hst ho
  rw [List.nil_append] at how3
  clear ho hst how hb6
  simp -dsimp -implicitDefEqProofs (disch := first | omega | assumption | (simp only [Option.isSome_some, Qt0]; done) | (simp only [UInt64.reduceToNat, UInt32.reduceToNat, UInt8.reduceToNat, List.length_cons, List.length_nil, List.length_append, Int.toNat_natCast] <;> omega)) only [Nat.reduceLT, Nat.reduceLeDiff, Nat.reduceEqDiff, ↓reduceIte, Int.reduceLT, Int.reduceLE, Int.reduceToNat, Int.reduceEq, Int.reduceNe, Nat.reduceAdd, UInt8.reduceOfNat, UInt16.reduceOfNat, UInt32.reduceOfNat, UInt64.reduceOfNat, UInt64.reduceToNat, UInt32.reduceToNat, UInt16.reduceToNat, UInt8.reduceToNat, Int.reduceAdd, Int.reduceSub, Int.reduceMul, Nat.reduceMul, Qp0, Ql0, Qe0]
  refine (rsum_any H (by omega) _ w0 _ (hKH.more how3.le)).mono ?_
  rintro v hz ⟨rfl, rfl⟩
  simp -dsimp -implicitDefEqProofs (disch := first | omega | assumption | (simp only [Option.isSome_some, Qt0]; done) | (simp only [UInt64.reduceToNat, UInt32.reduceToNat, UInt8.reduceToNat, List.length_cons, List.length_nil, List.length_append, Int.toNat_natCast] <;> omega)) only [Nat.reduceLT, Nat.reduceLeDiff, Nat.reduceEqDiff, ↓reduceIte, Int.reduceLT, Int.reduceLE, Int.reduceToNat, Int.reduceEq, Int.reduceNe, Nat.reduceAdd, UInt8.reduceOfNat, UInt16.reduceOfNat, UInt32.reduceOfNat, UInt64.reduceOfNat, UInt64.reduceToNat, UInt32.reduceToNat, UInt16.reduceToNat, UInt8.reduceToNat, Int.reduceAdd, Int.reduceSub, Int.reduceMul, Nat.reduceMul, Qp0, Ql0, Qe0]
  refine (rfour_any (Fm.sum H) w0 _).mono ?_
  rintro v h4 ⟨b8, rfl, hb8, rfl⟩
  have hF4 := Fm.four_length (Fm.sum H)
  generalize Fm.four (Fm.sum H) = F at *
  have how4 := how3.more ((PH.Le.refl _).new b8 ⟨bs F, 4⟩ hb8)
  have hm8 : (hz.new b8 ⟨bs F, 4⟩).m b8 = some ⟨bs F, 4⟩ := by rw [PH.new_m, if_pos rfl]
  generalize hz.new b8 ⟨bs F, 4⟩ = h4 at *
  clear how3 hb8
  simp -dsimp -implicitDefEqProofs (disch := first | omega | assumption | (simp only [Option.isSome_some, Qt0]; done) | (simp only [UInt64.reduceToNat, UInt32.reduceToNat, UInt8.reduceToNat, List.length_cons, List.length_nil, List.length_append, Int.toNat_natCast] <;> omega)) only [Nat.reduceLT, Nat.reduceLeDiff, Nat.reduceEqDiff, ↓reduceIte, Int.reduceLT, Int.reduceLE, Int.reduceToNat, Int.reduceEq, Int.reduceNe, Nat.reduceAdd, UInt8.reduceOfNat, UInt16.reduceOfNat, UInt32.reduceOfNat, UInt64.reduceOfNat, UInt64.reduceToNat, UInt32.reduceToNat, UInt16.reduceToNat, UInt8.reduceToNat, Int.reduceAdd, Int.reduceSub, Int.reduceMul, Nat.reduceMul, Qp0, Ql0, Qe0]
  refine Does_app el_u8 how4.own (Rs.blk (k := ⟨bs F, 4⟩) hm8 (by simp only [bs_length]; omega)) (bs_one _) (by unfold maxLen; omega) (by omega) (fun v5 h5 ho hst => ?_)
  have how5 := how4.stays hst ho
  rw [← bs_append] at how5
  clear ho hst how4 hm8
  simp -dsimp -implicitDefEqProofs (disch := first | omega | assumption | (simp only [Option.isSome_some, Qt0]; done) | (simp only [UInt64.reduceToNat, UInt32.reduceToNat, UInt8.reduceToNat, List.length_cons, List.length_nil, List.length_append, Int.toNat_natCast] <;> omega)) only [Nat.reduceLT, Nat.reduceLeDiff, Nat.reduceEqDiff, ↓reduceIte, Int.reduceLT, Int.reduceLE, Int.reduceToNat, Int.reduceEq, Int.reduceNe, Nat.reduceAdd, UInt8.reduceOfNat, UInt16.reduceOfNat, UInt32.reduceOfNat, UInt64.reduceOfNat, UInt64.reduceToNat, UInt32.reduceToNat, UInt16.reduceToNat, UInt8.reduceToNat, Int.reduceAdd, Int.reduceSub, Int.reduceMul, Nat.reduceMul, Qp0, Ql0, Qe0]
  refine Does_appT el_u8 Tryd.underlying9 how5.own (by omega) (fun v6 h6 ho hst hsb => ?_)
  have how6 := how5.stays hst ho
  rw [← bs_append] at how6
  clear ho hst hsb how5
  simp -dsimp -implicitDefEqProofs (disch := first | omega | assumption | (simp only [Option.isSome_some, Qt0]; done) | (simp only [UInt64.reduceToNat, UInt32.reduceToNat, UInt8.reduceToNat, List.length_cons, List.length_nil, List.length_append, Int.toNat_natCast] <;> omega)) only [Nat.reduceLT, Nat.reduceLeDiff, Nat.reduceEqDiff, ↓reduceIte, Int.reduceLT, Int.reduceLE, Int.reduceToNat, Int.reduceEq, Int.reduceNe, Nat.reduceAdd, UInt8.reduceOfNat, UInt16.reduceOfNat, UInt32.reduceOfNat, UInt64.reduceOfNat, UInt64.reduceToNat, UInt32.reduceToNat, UInt16.reduceToNat, UInt8.reduceToNat, Int.reduceAdd, Int.reduceSub, Int.reduceMul, Nat.reduceMul, Qp0, Ql0, Qe0]
  refine Does_zero el_u8 (fun b9 hb9 => ?_)
  have hoz := OwnS.zero (h := h6) 1 hb9
  generalize h6.new b9 ⟨[], 0⟩ = h7 at *
  simp -dsimp -implicitDefEqProofs (disch := first | omega | assumption | (simp only [Option.isSome_some, Qt0]; done) | (simp only [UInt64.reduceToNat, UInt32.reduceToNat, UInt8.reduceToNat, List.length_cons, List.length_nil, List.length_append, Int.toNat_natCast] <;> omega)) only [Nat.reduceLT, Nat.reduceLeDiff, Nat.reduceEqDiff, ↓reduceIte, Int.reduceLT, Int.reduceLE, Int.reduceToNat, Int.reduceEq, Int.reduceNe, Nat.reduceAdd, UInt8.reduceOfNat, UInt16.reduceOfNat, UInt32.reduceOfNat, UInt64.reduceOfNat, UInt64.reduceToNat, UInt32.reduceToNat, UInt16.reduceToNat, UInt8.reduceToNat, Int.reduceAdd, Int.reduceSub, Int.reduceMul, Nat.reduceMul, Qp0, Ql0, Qe0]
  refine Does_app el_u8 hoz.own (Rs.blk (k := ⟨bs H, 2⟩) ((how6.le.trans hoz.le).m _ _ hm5) (by simp only [bs_length]; omega)) (bs_one _) (by unfold maxLen; omega) (by omega) (fun v8 h8 ho hst => ?_)
  have hoz1 := hoz.stays hst ho
  rw [List.nil_append] at hoz1
  clear ho hst hoz hb9
  simp -dsimp -implicitDefEqProofs (disch := first | omega | assumption | (simp only [Option.isSome_some, Qt0]; done) | (simp only [UInt64.reduceToNat, UInt32.reduceToNat, UInt8.reduceToNat, List.length_cons, List.length_nil, List.length_append, Int.toNat_natCast] <;> omega)) only [Nat.reduceLT, Nat.reduceLeDiff, Nat.reduceEqDiff, ↓reduceIte, Int.reduceLT, Int.reduceLE, Int.reduceToNat, Int.reduceEq, Int.reduceNe, Nat.reduceAdd, UInt8.reduceOfNat, UInt16.reduceOfNat, UInt32.reduceOfNat, UInt64.reduceOfNat, UInt64.reduceToNat, UInt32.reduceToNat, UInt16.reduceToNat, UInt8.reduceToNat, Int.reduceAdd, Int.reduceSub, Int.reduceMul, Nat.reduceMul, Qp0, Ql0, Qe0]
  refine Does_appT el_u8 Tryd.underlying9 hoz1.own (by omega) (fun v9 h9 ho hst hsb => ?_)
  have hoz2 := hoz1.stays hst ho
  rw [← bs_append] at hoz2
  clear ho hst hsb hoz1
  obtain ⟨bA, cA, rfl, hcA, hmA⟩ := hoz2.own.pos (by omega)
  have hlA : (H ++ p).length = 0 + 2 + p.length := by rw [List.length_append]; omega
  have hKA : Kn h9 (.slice (some ⟨bA, 0, none⟩) (0 + 2 + p.length) cA) (bs (H ++ p)) := by
    have := Kn.blk (h := h9) (b := bA) (c := cA) hmA (by rw [bs_length]; omega)
    rwa [bs_length, hlA] at this
  simp -dsimp -implicitDefEqProofs (disch := first | omega | assumption | (simp only [Option.isSome_some, Qt0]; done) | (simp only [UInt64.reduceToNat, UInt32.reduceToNat, UInt8.reduceToNat, List.length_cons, List.length_nil, List.length_append, Int.toNat_natCast] <;> omega)) only [Nat.reduceLT, Nat.reduceLeDiff, Nat.reduceEqDiff, ↓reduceIte, Int.reduceLT, Int.reduceLE, Int.reduceToNat, Int.reduceEq, Int.reduceNe, Nat.reduceAdd, UInt8.reduceOfNat, UInt16.reduceOfNat, UInt32.reduceOfNat, UInt64.reduceOfNat, UInt64.reduceToNat, UInt32.reduceToNat, UInt16.reduceToNat, UInt8.reduceToNat, Int.reduceAdd, Int.reduceSub, Int.reduceMul, Nat.reduceMul, Qp0, Ql0, Qe0]
  refine (rsum_any (H ++ p) (by omega) _ w0 _ (by simpa using hKA)).mono ?_
  rintro v hz ⟨rfl, rfl⟩
  simp -dsimp -implicitDefEqProofs (disch := first | omega | assumption | (simp only [Option.isSome_some, Qt0]; done) | (simp only [UInt64.reduceToNat, UInt32.reduceToNat, UInt8.reduceToNat, List.length_cons, List.length_nil, List.length_append, Int.toNat_natCast] <;> omega)) only [Nat.reduceLT, Nat.reduceLeDiff, Nat.reduceEqDiff, ↓reduceIte, Int.reduceLT, Int.reduceLE, Int.reduceToNat, Int.reduceEq, Int.reduceNe, Nat.reduceAdd, UInt8.reduceOfNat, UInt16.reduceOfNat, UInt32.reduceOfNat, UInt64.reduceOfNat, UInt64.reduceToNat, UInt32.reduceToNat, UInt16.reduceToNat, UInt8.reduceToNat, Int.reduceAdd, Int.reduceSub, Int.reduceMul, Nat.reduceMul, Qp0, Ql0, Qe0]
  refine (rfour_any (Fm.sum (H ++ p)) w0 _).mono ?_
  rintro v h10 ⟨b10, rfl, hb10, rfl⟩
  have hF5 := Fm.four_length (Fm.sum (H ++ p))
  generalize Fm.four (Fm.sum (H ++ p)) = F2 at *
  have how10 := (how6.more hoz2.le).more ((PH.Le.refl _).new b10 ⟨bs F2, 4⟩ hb10)
  have hm10 : (hz.new b10 ⟨bs F2, 4⟩).m b10 = some ⟨bs F2, 4⟩ := by rw [PH.new_m, if_pos rfl]
  generalize hz.new b10 ⟨bs F2, 4⟩ = h10 at *
  simp -dsimp -implicitDefEqProofs (disch := first | omega | assumption | (simp only [Option.isSome_some, Qt0]; done) | (simp only [UInt64.reduceToNat, UInt32.reduceToNat, UInt8.reduceToNat, List.length_cons, List.length_nil, List.length_append, Int.toNat_natCast] <;> omega)) only [Nat.reduceLT, Nat.reduceLeDiff, Nat.reduceEqDiff, ↓reduceIte, Int.reduceLT, Int.reduceLE, Int.reduceToNat, Int.reduceEq, Int.reduceNe, Nat.reduceAdd, UInt8.reduceOfNat, UInt16.reduceOfNat, UInt32.reduceOfNat, UInt64.reduceOfNat, UInt64.reduceToNat, UInt32.reduceToNat, UInt16.reduceToNat, UInt8.reduceToNat, Int.reduceAdd, Int.reduceSub, Int.reduceMul, Nat.reduceMul, Qp0, Ql0, Qe0]
  refine Does_app el_u8 how10.own (Rs.blk (k := ⟨bs F2, 4⟩) hm10 (by simp only [bs_length]; omega)) (bs_one _) (by unfold maxLen; omega) (by omega) (fun v11 h11 ho hst => ?_)
  have how11 := how10.stays hst ho
  rw [← bs_append] at how11
  simp -dsimp -implicitDefEqProofs (disch := first | omega | assumption | (simp only [Option.isSome_some, Qt0]; done) | (simp only [UInt64.reduceToNat, UInt32.reduceToNat, UInt8.reduceToNat, List.length_cons, List.length_nil, List.length_append, Int.toNat_natCast] <;> omega)) only [Nat.reduceLT, Nat.reduceLeDiff, Nat.reduceEqDiff, ↓reduceIte, Int.reduceLT, Int.reduceLE, Int.reduceToNat, Int.reduceEq, Int.reduceNe, Nat.reduceAdd, UInt8.reduceOfNat, UInt16.reduceOfNat, UInt32.reduceOfNat, UInt64.reduceOfNat, UInt64.reduceToNat, UInt32.reduceToNat, UInt16.reduceToNat, UInt8.reduceToNat, Int.reduceAdd, Int.reduceSub, Int.reduceMul, Nat.reduceMul, Qp0, Ql0, Qe0]
  refine ⟨_, PH.Le.refl _, ?_⟩
  have := OwnS_from how11 hle1
  rwa [show 0 + 2 + 4 + p.length + 4 = p.length + 10 by omega] at this
set_option maxRecDepth 20000 in
set_option maxHeartbeats 1000000 in
theorem rseal_any (p : List UInt8) (hp : p.length ≤ 10000) (w0 : World) (h : PH) : PCalls Tryd.prog w0 10 [str p] h fun v h' => v = str (Fm.frame p) ∧ h' = h := by
  refine PCalls_body Tryd.func10 (by kernel_rfl) rfl _ Tryd.ntmps10 (by kernel_rfl) (by kernel_rfl) _ Tryd.results10 ?_
  simp -dsimp -implicitDefEqProofs (disch := first | omega | assumption | (simp only [Option.isSome_some, Qt0]; done) | (simp only [UInt64.reduceToNat, UInt32.reduceToNat, UInt8.reduceToNat, List.length_cons, List.length_nil, List.length_append, Int.toNat_natCast] <;> omega)) only [Nat.reduceLT, Nat.reduceLeDiff, Nat.reduceEqDiff, ↓reduceIte, Int.reduceLT, Int.reduceLE, Int.reduceToNat, Int.reduceEq, Int.reduceNe, Nat.reduceAdd, UInt8.reduceOfNat, UInt16.reduceOfNat, UInt32.reduceOfNat, UInt64.reduceOfNat, UInt64.reduceToNat, UInt32.reduceToNat, UInt16.reduceToNat, UInt8.reduceToNat, Int.reduceAdd, Int.reduceSub, Int.reduceMul, Nat.reduceMul, Qp0, Ql0, Qe0]
  refine (rraw_any p hp w0 h).mono ?_
  rintro v h7 how7
  have hrl := Fm.raw_length p
  rw [← hrl] at how7
  obtain ⟨R, hR⟩ : ∃ R, R = Fm.raw p := ⟨_, rfl⟩
  have hfr : Fm.frame p = 1 :: Fm.enc R := by rw [hR]; rfl
  rw [hfr]
  rw [← hR] at how7 hrl
  clear hfr hR
  obtain ⟨bR, cR, rfl, hcR, hmR⟩ := how7.own.pos (by omega)
  simp -dsimp -implicitDefEqProofs (disch := first | omega | assumption | (simp only [Option.isSome_some, Qt0]; done) | (simp only [UInt64.reduceToNat, UInt32.reduceToNat, UInt8.reduceToNat, List.length_cons, List.length_nil, List.length_append, Int.toNat_natCast] <;> omega)) only [Nat.reduceLT, Nat.reduceLeDiff, Nat.reduceEqDiff, ↓reduceIte, Int.reduceLT, Int.reduceLE, Int.reduceToNat, Int.reduceEq, Int.reduceNe, Nat.reduceAdd, UInt8.reduceOfNat, UInt16.reduceOfNat, UInt32.reduceOfNat, UInt64.reduceOfNat, UInt64.reduceToNat, UInt32.reduceToNat, UInt16.reduceToNat, UInt8.reduceToNat, Int.reduceAdd, Int.reduceSub, Int.reduceMul, Nat.reduceMul, Qp0, Ql0, Qe0]
  refine Does_one (v := u8 1) el_u8 rfl (by omega) (fun b9 hb9 => ?_)
  have hown : OwnS h7 (h7.new b9 ⟨[u8 1], 1⟩) 1 (.slice (some ⟨b9, 0, none⟩) 1 1) (1 + 2 * 0) (bs (1 :: Fm.enc (R.take 0))) := ⟨(PH.Le.refl h7).new _ _ hb9, ⟨rfl, .inr ⟨b9, 1, rfl, Nat.le_refl _, by unfold maxLen; omega, by rw [PH.new_m, if_pos rfl]; rfl⟩⟩, fun x e => by cases e; exact hb9⟩
  have hcell : (u8 1).cells.toList = [u8 1] := rfl
  rw [hcell]
  generalize h7.new b9 ⟨[u8 1], 1⟩ = h8 at *
  simp -dsimp -implicitDefEqProofs (disch := first | omega | assumption | (simp only [Option.isSome_some, Qt0]; done) | (simp only [UInt64.reduceToNat, UInt32.reduceToNat, UInt8.reduceToNat, List.length_cons, List.length_nil, List.length_append, Int.toNat_natCast] <;> omega)) only [Nat.reduceLT, Nat.reduceLeDiff, Nat.reduceEqDiff, ↓reduceIte, Int.reduceLT, Int.reduceLE, Int.reduceToNat, Int.reduceEq, Int.reduceNe, Nat.reduceAdd, UInt8.reduceOfNat, UInt16.reduceOfNat, UInt32.reduceOfNat, UInt64.reduceOfNat, UInt64.reduceToNat, UInt32.reduceToNat, UInt16.reduceToNat, UInt8.reduceToNat, Int.reduceAdd, Int.reduceSub, Int.reduceMul, Nat.reduceMul, Qp0, Ql0, Qe0]
  refine PW_loop (fun n f h' => ∃ (i : Nat) (v : Value), i + n = R.length ∧ f 4 = some v ∧ f 3 = some (.slice (some ⟨bR, 0, none⟩) R.length cR) ∧ f 5 = some (.int .i64 i) ∧ OwnS h7 h' 1 v (1 + 2 * i) (bs (1 :: Fm.enc (R.take i)))) (by kernel_rfl) R.length ⟨0, _, by omega, ?_, ?_, ?_, hown⟩ ?_
  · simp -dsimp -implicitDefEqProofs (disch := first | omega | assumption | (simp only [Option.isSome_some, Qt0]; done) | (simp only [UInt64.reduceToNat, UInt32.reduceToNat, UInt8.reduceToNat, List.length_cons, List.length_nil, List.length_append, Int.toNat_natCast] <;> omega)) only [Nat.reduceLT, Nat.reduceLeDiff, Nat.reduceEqDiff, ↓reduceIte, Int.reduceLT, Int.reduceLE, Int.reduceToNat, Int.reduceEq, Int.reduceNe, Nat.reduceAdd, UInt8.reduceOfNat, UInt16.reduceOfNat, UInt32.reduceOfNat, UInt64.reduceOfNat, UInt64.reduceToNat, UInt32.reduceToNat, UInt16.reduceToNat, UInt8.reduceToNat, Int.reduceAdd, Int.reduceSub, Int.reduceMul, Nat.reduceMul, Qp0, Ql0, Qe0]
  · simp -dsimp -implicitDefEqProofs (disch := first | omega | assumption | (simp only [Option.isSome_some, Qt0]; done) | (simp only [UInt64.reduceToNat, UInt32.reduceToNat, UInt8.reduceToNat, List.length_cons, List.length_nil, List.length_append, Int.toNat_natCast] <;> omega)) only [Nat.reduceLT, Nat.reduceLeDiff, Nat.reduceEqDiff, ↓reduceIte, Int.reduceLT, Int.reduceLE, Int.reduceToNat, Int.reduceEq, Int.reduceNe, Nat.reduceAdd, UInt8.reduceOfNat, UInt16.reduceOfNat, UInt32.reduceOfNat, UInt64.reduceOfNat, UInt64.reduceToNat, UInt32.reduceToNat, UInt16.reduceToNat, UInt8.reduceToNat, Int.reduceAdd, Int.reduceSub, Int.reduceMul, Nat.reduceMul, Qp0, Ql0, Qe0]
    try rfl
  · simp -dsimp -implicitDefEqProofs (disch := first | omega | assumption | (simp only [Option.isSome_some, Qt0]; done) | (simp only [UInt64.reduceToNat, UInt32.reduceToNat, UInt8.reduceToNat, List.length_cons, List.length_nil, List.length_append, Int.toNat_natCast] <;> omega)) only [Nat.reduceLT, Nat.reduceLeDiff, Nat.reduceEqDiff, ↓reduceIte, Int.reduceLT, Int.reduceLE, Int.reduceToNat, Int.reduceEq, Int.reduceNe, Nat.reduceAdd, UInt8.reduceOfNat, UInt16.reduceOfNat, UInt32.reduceOfNat, UInt64.reduceOfNat, UInt64.reduceToNat, UInt32.reduceToNat, UInt16.reduceToNat, UInt8.reduceToNat, Int.reduceAdd, Int.reduceSub, Int.reduceMul, Nat.reduceMul, Qp0, Ql0, Qe0]
    try rfl
  clear hown
  rintro n f h9 ⟨i, v, hin, f4, f3, f5, how⟩
  by_cases hi : i < R.length
  · have e2 : decide ((i : Int) < (R.length : Int)) = true := decide_eq_true (by omega)
    obtain ⟨c, hc⟩ : ∃ c, R[i]? = some c := ⟨_, List.getElem?_eq_getElem hi⟩
    have hc' : (bs R)[i]? = some (u8 c) := by simp [bs, hc]
    have hnx := enc_next R i c hc
    have hi1 := hi_add c
    have hi2 := lo_add c
    simp -dsimp -implicitDefEqProofs (disch := first | omega | assumption | (simp only [Option.isSome_some, Qt0]; done) | (simp only [UInt64.reduceToNat, UInt32.reduceToNat, UInt8.reduceToNat, List.length_cons, List.length_nil, List.length_append, Int.toNat_natCast] <;> omega)) only [Nat.reduceLT, Nat.reduceLeDiff, Nat.reduceEqDiff, ↓reduceIte, Int.reduceLT, Int.reduceLE, Int.reduceToNat, Int.reduceEq, Int.reduceNe, Nat.reduceAdd, UInt8.reduceOfNat, UInt16.reduceOfNat, UInt32.reduceOfNat, UInt64.reduceOfNat, UInt64.reduceToNat, UInt32.reduceToNat, UInt16.reduceToNat, UInt8.reduceToNat, Int.reduceAdd, Int.reduceSub, Int.reduceMul, Nat.reduceMul, Qp0, Ql0, Qe0, f4, f3, f5, e2]
    refine PW_plan [0, 1, 2, 3, 4, 5, 6, 7, 8, 9, 10, 11, 12, 13, 14, 15] h7 (by kernel_rfl) (by decide +kernel) (by kernel_rfl) (by kernel_rfl) (by kernel_rfl) (fun c f h hq => by simp only [thenC_panic, thenK_panic, inBlk_panic, thenN_panic, vcRet_panic] at hq) how.le.sub ?_
    simp -dsimp -implicitDefEqProofs (disch := first | omega | assumption | (simp only [Option.isSome_some, Qt0]; done) | (simp only [UInt64.reduceToNat, UInt32.reduceToNat, UInt8.reduceToNat, List.length_cons, List.length_nil, List.length_append, Int.toNat_natCast] <;> omega)) only [Nat.reduceLT, Nat.reduceLeDiff, Nat.reduceEqDiff, ↓reduceIte, Int.reduceLT, Int.reduceLE, Int.reduceToNat, Int.reduceEq, Int.reduceNe, Nat.reduceAdd, UInt8.reduceOfNat, UInt16.reduceOfNat, UInt32.reduceOfNat, UInt64.reduceOfNat, UInt64.reduceToNat, UInt32.reduceToNat, UInt16.reduceToNat, UInt8.reduceToNat, Int.reduceAdd, Int.reduceSub, Int.reduceMul, Nat.reduceMul, Qp0, Ql0, Qe0, f4, f3, f5, rd_M, rdM_some, hmR, hc', hi1, hi2]
    refine Does_seq el_u8 (bs [(64 : UInt8) ||| c >>> 4, (64 : UInt8) ||| c &&& 15]) rfl (fun v hv => by obtain ⟨_, _, rfl⟩ := List.mem_map.1 hv; exact ⟨rfl, rfl⟩) (by omega) (by omega) (fun gb hgb => ?_)
    have howg := how.more ((PH.Le.refl _).new gb ⟨bs [(64 : UInt8) ||| c >>> 4, (64 : UInt8) ||| c &&& 15], 2⟩ hgb)
    simp -dsimp -implicitDefEqProofs (disch := first | omega | assumption | (simp only [Option.isSome_some, Qt0]; done) | (simp only [UInt64.reduceToNat, UInt32.reduceToNat, UInt8.reduceToNat, List.length_cons, List.length_nil, List.length_append, Int.toNat_natCast] <;> omega)) only [Nat.reduceLT, Nat.reduceLeDiff, Nat.reduceEqDiff, ↓reduceIte, Int.reduceLT, Int.reduceLE, Int.reduceToNat, Int.reduceEq, Int.reduceNe, Nat.reduceAdd, UInt8.reduceOfNat, UInt16.reduceOfNat, UInt32.reduceOfNat, UInt64.reduceOfNat, UInt64.reduceToNat, UInt32.reduceToNat, UInt16.reduceToNat, UInt8.reduceToNat, Int.reduceAdd, Int.reduceSub, Int.reduceMul, Nat.reduceMul, Qp0, Ql0, Qe0, f4, f3, f5]
    refine ⟨howg.le.sub, ?_⟩
    simp -dsimp -implicitDefEqProofs (disch := first | omega | assumption | (simp only [Option.isSome_some, Qt0]; done) | (simp only [UInt64.reduceToNat, UInt32.reduceToNat, UInt8.reduceToNat, List.length_cons, List.length_nil, List.length_append, Int.toNat_natCast] <;> omega)) only [Nat.reduceLT, Nat.reduceLeDiff, Nat.reduceEqDiff, ↓reduceIte, Int.reduceLT, Int.reduceLE, Int.reduceToNat, Int.reduceEq, Int.reduceNe, Nat.reduceAdd, UInt8.reduceOfNat, UInt16.reduceOfNat, UInt32.reduceOfNat, UInt64.reduceOfNat, UInt64.reduceToNat, UInt32.reduceToNat, UInt16.reduceToNat, UInt8.reduceToNat, Int.reduceAdd, Int.reduceSub, Int.reduceMul, Nat.reduceMul, Qp0, Ql0, Qe0, f4, f3, f5]
    refine Does_app el_u8 howg.own (Rs.blk (k := ⟨bs [(64 : UInt8) ||| c >>> 4, (64 : UInt8) ||| c &&& 15], 2⟩) (by rw [PH.new_m, if_pos rfl]) rfl) (bs_one _) (by unfold maxLen; omega) (by omega) (fun v10 h10 ho hst => ?_)
    have how10 := howg.stays hst ho
    rw [← hnx] at how10
    simp -dsimp -implicitDefEqProofs (disch := first | omega | assumption | (simp only [Option.isSome_some, Qt0]; done) | (simp only [UInt64.reduceToNat, UInt32.reduceToNat, UInt8.reduceToNat, List.length_cons, List.length_nil, List.length_append, Int.toNat_natCast] <;> omega)) only [Nat.reduceLT, Nat.reduceLeDiff, Nat.reduceEqDiff, ↓reduceIte, Int.reduceLT, Int.reduceLE, Int.reduceToNat, Int.reduceEq, Int.reduceNe, Nat.reduceAdd, UInt8.reduceOfNat, UInt16.reduceOfNat, UInt32.reduceOfNat, UInt64.reduceOfNat, UInt64.reduceToNat, UInt32.reduceToNat, UInt16.reduceToNat, UInt8.reduceToNat, Int.reduceAdd, Int.reduceSub, Int.reduceMul, Nat.reduceMul, Qp0, Ql0, Qe0, f4, f3, f5]
    refine ⟨how10.le.sub, ?_⟩
    simp -dsimp -implicitDefEqProofs (disch := first | omega | assumption | (simp only [Option.isSome_some, Qt0]; done) | (simp only [UInt64.reduceToNat, UInt32.reduceToNat, UInt8.reduceToNat, List.length_cons, List.length_nil, List.length_append, Int.toNat_natCast] <;> omega)) only [Nat.reduceLT, Nat.reduceLeDiff, Nat.reduceEqDiff, ↓reduceIte, Int.reduceLT, Int.reduceLE, Int.reduceToNat, Int.reduceEq, Int.reduceNe, Nat.reduceAdd, UInt8.reduceOfNat, UInt16.reduceOfNat, UInt32.reduceOfNat, UInt64.reduceOfNat, UInt64.reduceToNat, UInt32.reduceToNat, UInt16.reduceToNat, UInt8.reduceToNat, Int.reduceAdd, Int.reduceSub, Int.reduceMul, Nat.reduceMul, Qp0, Ql0, Qe0, f4, f3, f5]
    refine ⟨n - 1, h10, by omega, PH.Le.refl _, i + 1, v10, by omega, by simp, by simp [f3], by simp, ?_⟩
    rw [show 1 + 2 * (i + 1) = 1 + 2 * i + 2 by omega]
    exact how10
  · obtain rfl : i = R.length := by omega
    have e2 : decide ((R.length : Int) < (R.length : Int)) = false := decide_eq_false (by omega)
    rw [List.take_length] at how
    obtain ⟨A, c2, rfl, hc2⟩ := how.own.len
    simp -dsimp -implicitDefEqProofs (disch := first | omega | assumption | (simp only [Option.isSome_some, Qt0]; done) | (simp only [UInt64.reduceToNat, UInt32.reduceToNat, UInt8.reduceToNat, List.length_cons, List.length_nil, List.length_append, Int.toNat_natCast] <;> omega)) only [Nat.reduceLT, Nat.reduceLeDiff, Nat.reduceEqDiff, ↓reduceIte, Int.reduceLT, Int.reduceLE, Int.reduceToNat, Int.reduceEq, Int.reduceNe, Nat.reduceAdd, UInt8.reduceOfNat, UInt16.reduceOfNat, UInt32.reduceOfNat, UInt64.reduceOfNat, UInt64.reduceToNat, UInt32.reduceToNat, UInt16.reduceToNat, UInt8.reduceToNat, Int.reduceAdd, Int.reduceSub, Int.reduceMul, Nat.reduceMul, Qp0, Ql0, Qe0, f4, f3, f5, e2]
    refine vtext_own Tryd.underlying41 Tryd.underlying5 Tryd.underlying9 (Rs.own how.own) how.own.nil_zero ?_
    simp -dsimp -implicitDefEqProofs (disch := first | omega | assumption | (simp only [Option.isSome_some, Qt0]; done) | (simp only [UInt64.reduceToNat, UInt32.reduceToNat, UInt8.reduceToNat, List.length_cons, List.length_nil, List.length_append, Int.toNat_natCast] <;> omega)) only [Nat.reduceLT, Nat.reduceLeDiff, Nat.reduceEqDiff, ↓reduceIte, Int.reduceLT, Int.reduceLE, Int.reduceToNat, Int.reduceEq, Int.reduceNe, Nat.reduceAdd, UInt8.reduceOfNat, UInt16.reduceOfNat, UInt32.reduceOfNat, UInt64.reduceOfNat, UInt64.reduceToNat, UInt32.reduceToNat, UInt16.reduceToNat, UInt8.reduceToNat, Int.reduceAdd, Int.reduceSub, Int.reduceMul, Nat.reduceMul, Qp0, Ql0, Qe0]
    exact ⟨_, how7.le.trans how.le, by trivial, rfl⟩
end Go.Proofs.YtpdcbkleolciiaaDoor
