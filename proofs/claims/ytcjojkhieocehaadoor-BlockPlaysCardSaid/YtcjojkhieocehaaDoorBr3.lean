/- Walks of the reference's device: Rot, Crash; of the device's Rot, and of New where the room can't be. No condition. -/
import Derived.Test.YtcjojkhieocehaaDoorBr2
namespace Go.Proofs.YtcjojkhieocehaaDoor
set_option linter.unusedVariables false
set_option linter.unusedSimpArgs false
open Go.RowKit Px
/-- What a crash leaves of the late bytes. -/
def lossL (mask Y : List UInt8) : Nat → List UInt8
  | 0 => []
  | k + 1 => lossL mask Y k ++ [if lost mask k = true then 0 else Y.getD k 0]
theorem lossL_length (mask Y : List UInt8) : ∀ k, (lossL mask Y k).length = k
  | 0 => rfl
  | k + 1 => by rw [lossL, List.length_append, lossL_length mask Y k]; rfl
theorem zl_loss (mask X Y : List UInt8) : ∀ k, k ≤ Y.length → zl mask X.length (X ++ Y) k = X ++ lossL mask Y k ++ Y.drop k
  | 0, _ => by simp [zl, lossL]
  | k + 1, h => by
    have ih := zl_loss mask X Y k (by omega)
    have hd : Y.drop k = Y.getD k 0 :: Y.drop (k + 1) := by
      rw [List.drop_eq_getElem_cons (by omega), List.getD, List.getElem?_eq_getElem (by omega)]; rfl
    have hlen : (X ++ lossL mask Y k).length = X.length + k := by rw [List.length_append, lossL_length]
    unfold zl lossL
    rw [ih, hd]
    split
    · rw [List.set_append_right _ _ (by omega), hlen, Nat.sub_self, List.set_cons_zero]
      simp
    · simp
theorem crash_parts (d : Dk) {X Y : List UInt8} (hl : d.l = X ++ Y) (hs : d.safe = X.length) (k : Int) (mask : List UInt8) (n : Nat) (hn : d.kept k = n) (hnl : n ≤ Y.length) :
    vK (d.crash k mask) = rK (X ++ lossL mask Y n) [] d.room (-1) false := by
  have h1 : (d.crash k mask).l = X ++ lossL mask Y n := by
    unfold Dk.crash
    simp only [hn, hs, Int.toNat_natCast, hl]
    rw [zl_loss mask X Y n hnl, show ((X.length : Int) + (n : Int)).toNat = (X ++ lossL mask Y n).length by rw [List.length_append, lossL_length]; omega]
    exact List.take_left
  refine vK_of (d := d.crash k mask) (by rw [h1, List.append_nil]) ?_
  show d.safe + d.kept k = _
  rw [hn, hs, List.length_append, lossL_length]; omega
theorem kept_eq (d : Dk) {X Y : List UInt8} (hl : d.l = X ++ Y) (hs : d.safe = X.length) (k : Int) : ∃ n : Nat, d.kept k = n ∧ n ≤ Y.length ∧ (if k.tmod ((Y.length : Int) + 1) < 0 then k.tmod ((Y.length : Int) + 1) + ((Y.length : Int) + 1) else k.tmod ((Y.length : Int) + 1)) = n := by
  have hb : (d.l.length : Int) - d.safe + 1 = (Y.length : Int) + 1 := by rw [hl, hs, List.length_append]; omega
  have h1 := Int.tmod_lt_of_pos k (show (0 : Int) < (Y.length : Int) + 1 by omega)
  have h2 := Int.lt_tmod_of_pos k (show (0 : Int) < (Y.length : Int) + 1 by omega)
  have hk : d.kept k = (k.tmod ((Y.length : Int) + 1) + ((Y.length : Int) + 1)) % ((Y.length : Int) + 1) := by unfold Dk.kept; rw [hb]
  generalize k.tmod ((Y.length : Int) + 1) = t at *
  refine ⟨(if t < 0 then t + ((Y.length : Int) + 1) else t).toNat, ?_, ?_, ?_⟩
  · rw [hk]
    split
    · rw [Int.emod_eq_of_lt (by omega) (by omega)]; omega
    · rw [Int.add_emod_right, Int.emod_eq_of_lt (by omega) (by omega)]; omega
  · split <;> omega
  · split <;> omega
theorem Px.PH.Le.del_self {h h' : PH} (l : PH.Le h h') (c : Nat) : PH.Le (h.del c) h' := ⟨l.top, fun x k e => by
  rw [PH.del_m] at e
  by_cases hx : x = c
  · rw [if_pos hx] at e; cases e
  · rw [if_neg hx] at e; exact l.m x k e⟩
section
variable (c : Nat) (d : Dk) (w0 : World) (h : PH)
set_option maxRecDepth 20000 in
set_option maxHeartbeats 1000000 in
theorem rrot_any (hc : h.m c = some ⟨vK d, 5⟩) (g : Good d) (n : Int) (x : UInt8) : PCalls Tryd.prog w0 30 [.pointer (some ⟨c, 0, none⟩), .int .i64 n, u8 x] h fun v h' => v = .bool (d.rot n x).2 ∧ PH.Le (h.new c ⟨vK (d.rot n x).1, 5⟩) h' := by
  refine PCalls_body Tryd.func30 (by kernel_rfl) rfl _ Tryd.ntmps30 (by kernel_rfl) (by kernel_rfl) _ Tryd.results30 ?_
  have hsame := PH.new_same hc
  obtain ⟨X, Y, hl, hsf, hXY⟩ := g.split
  rw [vK_of hl hsf] at hc
  unfold rK at hc
  unfold Dk.rot
  cases hdn : d.down
  rotate_left
  · rw [hdn] at hc
    rw [if_pos (.inl rfl)]
    simp -dsimp -implicitDefEqProofs (disch := first | omega | assumption | (simp only [Option.isSome_some, Qt0]; done) | (simp only [UInt64.reduceToNat, UInt32.reduceToNat, UInt8.reduceToNat, List.length_cons, List.length_nil, List.length_append, Int.toNat_natCast] <;> omega) | fail) only [Nat.reduceLT, Nat.reduceLeDiff, Nat.reduceEqDiff, ↓reduceIte, Int.reduceLT, Int.reduceLE, Int.reduceToNat, Int.reduceEq, Int.reduceNe, Nat.reduceAdd, UInt8.reduceOfNat, UInt16.reduceOfNat, UInt32.reduceOfNat, UInt64.reduceOfNat, UInt64.reduceToNat, UInt32.reduceToNat, UInt16.reduceToNat, UInt8.reduceToNat, Int.reduceAdd, Int.reduceSub, Int.reduceMul, Nat.reduceMul, Qp0, Ql0, Qe0, rd_M, rdM_some, hc]
    exact ⟨_, PH.Le.refl _, by trivial, by rw [hsame]; exact PH.Le.refl _⟩
  rw [hdn] at hc
  by_cases h0 : n < 0
  · rw [if_pos (.inr (.inl h0))]
    have d1 := decide_eq_true h0
    simp -dsimp -implicitDefEqProofs (disch := first | omega | assumption | (simp only [Option.isSome_some, Qt0]; done) | (simp only [UInt64.reduceToNat, UInt32.reduceToNat, UInt8.reduceToNat, List.length_cons, List.length_nil, List.length_append, Int.toNat_natCast] <;> omega) | fail) only [Nat.reduceLT, Nat.reduceLeDiff, Nat.reduceEqDiff, ↓reduceIte, Int.reduceLT, Int.reduceLE, Int.reduceToNat, Int.reduceEq, Int.reduceNe, Nat.reduceAdd, UInt8.reduceOfNat, UInt16.reduceOfNat, UInt32.reduceOfNat, UInt64.reduceOfNat, UInt64.reduceToNat, UInt32.reduceToNat, UInt16.reduceToNat, UInt8.reduceToNat, Int.reduceAdd, Int.reduceSub, Int.reduceMul, Nat.reduceMul, Qp0, Ql0, Qe0, rd_M, rdM_some, hc, d1]
    exact ⟨_, PH.Le.refl _, by trivial, by rw [hsame]; exact PH.Le.refl _⟩
  have d1 := decide_eq_false h0
  obtain ⟨j, rfl⟩ := Int.eq_ofNat_of_zero_le (show 0 ≤ n by omega)
  by_cases h1 : d.safe ≤ j
  · rw [if_pos (.inr (.inr (.inl h1)))]
    have d2 : decide ((X.length : Int) ≤ (j : Int)) = true := decide_eq_true (by omega)
    simp -dsimp -implicitDefEqProofs (disch := first | omega | assumption | (simp only [Option.isSome_some, Qt0]; done) | (simp only [UInt64.reduceToNat, UInt32.reduceToNat, UInt8.reduceToNat, List.length_cons, List.length_nil, List.length_append, Int.toNat_natCast] <;> omega) | fail) only [Nat.reduceLT, Nat.reduceLeDiff, Nat.reduceEqDiff, ↓reduceIte, Int.reduceLT, Int.reduceLE, Int.reduceToNat, Int.reduceEq, Int.reduceNe, Nat.reduceAdd, UInt8.reduceOfNat, UInt16.reduceOfNat, UInt32.reduceOfNat, UInt64.reduceOfNat, UInt64.reduceToNat, UInt32.reduceToNat, UInt16.reduceToNat, UInt8.reduceToNat, Int.reduceAdd, Int.reduceSub, Int.reduceMul, Nat.reduceMul, Qp0, Ql0, Qe0, rd_M, rdM_some, hc, d1, ge_iff_le, d2]
    exact ⟨_, PH.Le.refl _, by trivial, by rw [hsame]; exact PH.Le.refl _⟩
  have d2 : decide ((X.length : Int) ≤ (j : Int)) = false := decide_eq_false (by omega)
  by_cases h2 : x = 0
  · rw [if_pos (.inr (.inr (.inr h2)))]
    have d3 := decide_eq_true h2
    simp -dsimp -implicitDefEqProofs (disch := first | omega | assumption | (simp only [Option.isSome_some, Qt0]; done) | (simp only [UInt64.reduceToNat, UInt32.reduceToNat, UInt8.reduceToNat, List.length_cons, List.length_nil, List.length_append, Int.toNat_natCast] <;> omega) | fail) only [Nat.reduceLT, Nat.reduceLeDiff, Nat.reduceEqDiff, ↓reduceIte, Int.reduceLT, Int.reduceLE, Int.reduceToNat, Int.reduceEq, Int.reduceNe, Nat.reduceAdd, UInt8.reduceOfNat, UInt16.reduceOfNat, UInt32.reduceOfNat, UInt64.reduceOfNat, UInt64.reduceToNat, UInt32.reduceToNat, UInt16.reduceToNat, UInt8.reduceToNat, Int.reduceAdd, Int.reduceSub, Int.reduceMul, Nat.reduceMul, Qp0, Ql0, Qe0, rd_M, rdM_some, hc, d1, ge_iff_le, d2, d3]
    exact ⟨_, PH.Le.refl _, by trivial, by rw [hsame]; exact PH.Le.refl _⟩
  have d3 := decide_eq_false h2
  rw [if_neg (by simp [h0, h1, h2]), Int.toNat_natCast]
  have hjl : j < X.length := by omega
  obtain ⟨y, hy⟩ : ∃ y, X.getD j 0 = y := ⟨_, rfl⟩
  have hly : d.l.getD j 0 = y := by rw [hl, ← hy, List.getD, List.getD, List.getElem?_append_left hjl]
  have hset : d.l.set j (d.l.getD j 0 ^^^ x) = X.set j (y ^^^ x) ++ Y := by rw [hly, hl, List.set_append_left _ _ hjl]
  have hres : vK { d with l := d.l.set j (d.l.getD j 0 ^^^ x) } = rK (X.set j (y ^^^ x)) Y d.room d.fuse d.down := vK_of hset (by simp only [hsf, List.length_set])
  have hsp : X.take j ++ [y ^^^ x] ++ X.drop (j + 1) = X.set j (y ^^^ x) := by rw [List.set_eq_take_append_cons_drop, if_pos hjl]; simp
  have hl1 : (X.take j).length ≤ 1048576 := by rw [List.length_take]; omega
  have hl2 : (X.drop (j + 1)).length ≤ 1048576 := by rw [List.length_drop]; omega
  have hTj : (((j : Nat) : Int) + 1).toNat = j + 1 := by omega
  rw [hdn] at hres
  rw [hres]
  clear hres hset hly
  simp -dsimp -implicitDefEqProofs (disch := first | omega | assumption | (simp only [Option.isSome_some, Qt0]; done) | (simp only [UInt64.reduceToNat, UInt32.reduceToNat, UInt8.reduceToNat, List.length_cons, List.length_nil, List.length_append, Int.toNat_natCast] <;> omega) | fail) only [Nat.reduceLT, Nat.reduceLeDiff, Nat.reduceEqDiff, ↓reduceIte, Int.reduceLT, Int.reduceLE, Int.reduceToNat, Int.reduceEq, Int.reduceNe, Nat.reduceAdd, UInt8.reduceOfNat, UInt16.reduceOfNat, UInt32.reduceOfNat, UInt64.reduceOfNat, UInt64.reduceToNat, UInt32.reduceToNat, UInt16.reduceToNat, UInt8.reduceToNat, Int.reduceAdd, Int.reduceSub, Int.reduceMul, Nat.reduceMul, Qp0, Ql0, Qe0, rd_M, rdM_some, hc, d1, ge_iff_le, d2, d3]
  refine PW_tr (.take 0 (.take 1 (.take 2 (.take 3 (.take 4 (.take 5 (.take 6 (.take 7 (.take 8 (.take 9 (.take 10 (.take 11 (.take 12 (.take 13 (.take 14 (.take 18 (.take 19 (.take 20 (.take 21 (.take 22 (.take 23 (.take 24 (.take 15 (.only 16 (.take 17 (.take 25 (.take 26 (.take 27 (.last 28))))))))))))))))))))))))))))) h (by kernel_rfl) (by decide +kernel) (by kernel_rfl) (by kernel_rfl) (by kernel_rfl) (fun c f h hq => by simp only [thenC_panic, thenK_panic, inBlk_panic, thenN_panic, vcRet_panic] at hq) (PH.Le.refl _).sub ?_
  simp -dsimp -implicitDefEqProofs (disch := first | omega | assumption | (simp only [Option.isSome_some, Qt0]; done) | (simp only [UInt64.reduceToNat, UInt32.reduceToNat, UInt8.reduceToNat, List.length_cons, List.length_nil, List.length_append, Int.toNat_natCast] <;> omega) | fail) only [Nat.reduceLT, Nat.reduceLeDiff, Nat.reduceEqDiff, ↓reduceIte, Int.reduceLT, Int.reduceLE, Int.reduceToNat, Int.reduceEq, Int.reduceNe, Nat.reduceAdd, UInt8.reduceOfNat, UInt16.reduceOfNat, UInt32.reduceOfNat, UInt64.reduceOfNat, UInt64.reduceToNat, UInt32.reduceToNat, UInt16.reduceToNat, UInt8.reduceToNat, Int.reduceAdd, Int.reduceSub, Int.reduceMul, Nat.reduceMul, Qp0, Ql0, Qe0, vcUS_done, vcUS_take, vcUS_only, vcUS_both, vcUS_last, vcUO_some, vcUL_some, vcUE_some, rd_M, rdM_some, hc, hy, hTj]
  refine Does_one (v := u8 _) el_u8 rfl (by omega) (fun gb hgb => ?_)
  have hlg := (PH.Le.refl h).new gb ⟨(u8 (y ^^^ x)).cells.toList, 1⟩ hgb
  have hRs := Rs.blk (w0 := w0) (h := h.new gb ⟨(u8 (y ^^^ x)).cells.toList, 1⟩) (b := gb) (sz := 1) (m := 1) (k := ⟨(u8 (y ^^^ x)).cells.toList, 1⟩) (by rw [PH.new_m, if_pos rfl]) rfl
  have hc2 := hlg.m _ _ hc
  generalize h.new gb ⟨(u8 (y ^^^ x)).cells.toList, 1⟩ = hg at *
  refine ⟨hlg.sub, ?_⟩
  simp -dsimp -implicitDefEqProofs (disch := first | omega | assumption | (simp only [Option.isSome_some, Qt0]; done) | (simp only [UInt64.reduceToNat, UInt32.reduceToNat, UInt8.reduceToNat, List.length_cons, List.length_nil, List.length_append, Int.toNat_natCast] <;> omega) | fail) only [Nat.reduceLT, Nat.reduceLeDiff, Nat.reduceEqDiff, ↓reduceIte, Int.reduceLT, Int.reduceLE, Int.reduceToNat, Int.reduceEq, Int.reduceNe, Nat.reduceAdd, UInt8.reduceOfNat, UInt16.reduceOfNat, UInt32.reduceOfNat, UInt64.reduceOfNat, UInt64.reduceToNat, UInt32.reduceToNat, UInt16.reduceToNat, UInt8.reduceToNat, Int.reduceAdd, Int.reduceSub, Int.reduceMul, Nat.reduceMul, Qp0, Ql0, Qe0, vcUS_done, vcUS_take, vcUS_only, vcUS_both, vcUS_last, vcUO_some, vcUL_some, vcUE_some]
  refine vtext_own (l := [y ^^^ x]) Tryd.underlying46 Tryd.underlying5 Tryd.underlying9 hRs (fun e => by cases e) ?_
  simp -dsimp -implicitDefEqProofs (disch := first | omega | assumption | (simp only [Option.isSome_some, Qt0]; done) | (simp only [UInt64.reduceToNat, UInt32.reduceToNat, UInt8.reduceToNat, List.length_cons, List.length_nil, List.length_append, Int.toNat_natCast] <;> omega) | fail) only [Nat.reduceLT, Nat.reduceLeDiff, Nat.reduceEqDiff, ↓reduceIte, Int.reduceLT, Int.reduceLE, Int.reduceToNat, Int.reduceEq, Int.reduceNe, Nat.reduceAdd, UInt8.reduceOfNat, UInt16.reduceOfNat, UInt32.reduceOfNat, UInt64.reduceOfNat, UInt64.reduceToNat, UInt32.reduceToNat, UInt16.reduceToNat, UInt8.reduceToNat, Int.reduceAdd, Int.reduceSub, Int.reduceMul, Nat.reduceMul, Qp0, Ql0, Qe0, vcUS_done, vcUS_take, vcUS_only, vcUS_both, vcUS_last, vcUO_some, vcUL_some, vcUE_some]
  refine ⟨hlg.sub, ?_⟩
  simp -dsimp -implicitDefEqProofs (disch := first | omega | assumption | (simp only [Option.isSome_some, Qt0]; done) | (simp only [UInt64.reduceToNat, UInt32.reduceToNat, UInt8.reduceToNat, List.length_cons, List.length_nil, List.length_append, Int.toNat_natCast] <;> omega) | fail) only [Nat.reduceLT, Nat.reduceLeDiff, Nat.reduceEqDiff, ↓reduceIte, Int.reduceLT, Int.reduceLE, Int.reduceToNat, Int.reduceEq, Int.reduceNe, Nat.reduceAdd, UInt8.reduceOfNat, UInt16.reduceOfNat, UInt32.reduceOfNat, UInt64.reduceOfNat, UInt64.reduceToNat, UInt32.reduceToNat, UInt16.reduceToNat, UInt8.reduceToNat, Int.reduceAdd, Int.reduceSub, Int.reduceMul, Nat.reduceMul, Qp0, Ql0, Qe0, vcUS_done, vcUS_take, vcUS_only, vcUS_both, vcUS_last, vcUO_some, vcUL_some, vcUE_some, rd_M, rdM_some, hc2, hsp, List.set_cons_zero, List.set_cons_succ]
  refine ⟨_, PH.Le.refl _, by trivial, ⟨by simp only [PH.new_top]; have := hlg.top; omega, fun z k e => ?_⟩⟩
  unfold rK at e
  rw [PH.new_m] at e ⊢
  by_cases hz : z = c
  · rw [if_pos hz] at e ⊢; exact e
  · rw [if_neg hz] at e ⊢; exact hlg.m _ _ e
set_option maxRecDepth 20000 in
set_option maxHeartbeats 1000000 in
theorem rcrash_any (hc : h.m c = some ⟨vK d, 5⟩) (g : Good d) (k : Int) (mask : List UInt8) (hmk : mask.length ≤ 1000000) : PCalls Tryd.prog w0 28 [.pointer (some ⟨c, 0, none⟩), .int .i64 k, str mask] h fun v h' => PH.Le (h.new c ⟨vK (d.crash k mask), 5⟩) h' := by
  refine PCalls_body Tryd.func28 (by kernel_rfl) rfl _ Tryd.ntmps28 (by kernel_rfl) (by kernel_rfl) _ Tryd.results28 ?_
  obtain ⟨X, Y, hl, hsf, hXY⟩ := g.split
  obtain ⟨n, hkn, hnl, hkt⟩ := kept_eq d hl hsf k
  rw [crash_parts d hl hsf k mask n hkn hnl]
  rw [vK_of hl hsf] at hc
  unfold rK at hc ⊢
  have hrem : ∀ {P : Program} {t : TypeId} {x y : Operand} {K : Value → Prop}, Yld P (binS .rem t x y (.int .i64 k) (.int .i64 ((Y.length : Int) + 1))) K = K (.int .i64 (k.tmod ((Y.length : Int) + 1))) := y_remT _ _ (by omega) (by omega)
  have hb1 := Int.tmod_lt_of_pos k (show (0 : Int) < (Y.length : Int) + 1 by omega)
  have hb2 := Int.lt_tmod_of_pos k (show (0 : Int) < (Y.length : Int) + 1 by omega)
  generalize k.tmod ((Y.length : Int) + 1) = t at *
  obtain ⟨b, hb⟩ : ∃ b, decide (t < 0) = b := ⟨_, rfl⟩
  cases b
  all_goals
    first
      | (have hh := of_decide_eq_true hb
         rw [if_pos hh] at hkt)
      | (have hh := of_decide_eq_false hb
         rw [if_neg hh] at hkt)
    simp -dsimp -implicitDefEqProofs (disch := first | omega | assumption | (simp only [Option.isSome_some, Qt0]; done) | (simp only [UInt64.reduceToNat, UInt32.reduceToNat, UInt8.reduceToNat, List.length_cons, List.length_nil, List.length_append, Int.toNat_natCast] <;> omega) | fail) only [Nat.reduceLT, Nat.reduceLeDiff, Nat.reduceEqDiff, ↓reduceIte, Int.reduceLT, Int.reduceLE, Int.reduceToNat, Int.reduceEq, Int.reduceNe, Nat.reduceAdd, UInt8.reduceOfNat, UInt16.reduceOfNat, UInt32.reduceOfNat, UInt64.reduceOfNat, UInt64.reduceToNat, UInt32.reduceToNat, UInt16.reduceToNat, UInt8.reduceToNat, Int.reduceAdd, Int.reduceSub, Int.reduceMul, Nat.reduceMul, Qp0, Ql0, Qe0, rd_M, rdM_some, hc, hrem, hb, hkt]
    refine Does_zero el_u8 (fun b0 hb0 => ?_)
    have how0 := OwnS.zero (h := h) 1 hb0
    simp -dsimp -implicitDefEqProofs (disch := first | omega | assumption | (simp only [Option.isSome_some, Qt0]; done) | (simp only [UInt64.reduceToNat, UInt32.reduceToNat, UInt8.reduceToNat, List.length_cons, List.length_nil, List.length_append, Int.toNat_natCast] <;> omega) | fail) only [Nat.reduceLT, Nat.reduceLeDiff, Nat.reduceEqDiff, ↓reduceIte, Int.reduceLT, Int.reduceLE, Int.reduceToNat, Int.reduceEq, Int.reduceNe, Nat.reduceAdd, UInt8.reduceOfNat, UInt16.reduceOfNat, UInt32.reduceOfNat, UInt64.reduceOfNat, UInt64.reduceToNat, UInt32.reduceToNat, UInt16.reduceToNat, UInt8.reduceToNat, Int.reduceAdd, Int.reduceSub, Int.reduceMul, Nat.reduceMul, Qp0, Ql0, Qe0, hkt]
    refine PW_loop (fun m f h' => ∃ (i : Nat) (v : Value), i + m = n ∧ f 0 = some (.pointer (some ⟨c, 0, none⟩)) ∧ f 2 = some (str mask) ∧ f 7 = some (.int .i64 n) ∧ f 8 = some v ∧ f 9 = some (.int .i64 i) ∧ OwnS h h' 1 v i (bs (lossL mask Y i))) (by kernel_rfl) n ⟨0, _, by omega, ?_, ?_, ?_, ?_, ?_, how0⟩ ?_
    · simp -dsimp -implicitDefEqProofs (disch := first | omega | assumption | (simp only [Option.isSome_some, Qt0]; done) | (simp only [UInt64.reduceToNat, UInt32.reduceToNat, UInt8.reduceToNat, List.length_cons, List.length_nil, List.length_append, Int.toNat_natCast] <;> omega) | fail) only [Nat.reduceLT, Nat.reduceLeDiff, Nat.reduceEqDiff, ↓reduceIte, Int.reduceLT, Int.reduceLE, Int.reduceToNat, Int.reduceEq, Int.reduceNe, Nat.reduceAdd, UInt8.reduceOfNat, UInt16.reduceOfNat, UInt32.reduceOfNat, UInt64.reduceOfNat, UInt64.reduceToNat, UInt32.reduceToNat, UInt16.reduceToNat, UInt8.reduceToNat, Int.reduceAdd, Int.reduceSub, Int.reduceMul, Nat.reduceMul, Qp0, Ql0, Qe0, hkt]
    · simp -dsimp -implicitDefEqProofs (disch := first | omega | assumption | (simp only [Option.isSome_some, Qt0]; done) | (simp only [UInt64.reduceToNat, UInt32.reduceToNat, UInt8.reduceToNat, List.length_cons, List.length_nil, List.length_append, Int.toNat_natCast] <;> omega) | fail) only [Nat.reduceLT, Nat.reduceLeDiff, Nat.reduceEqDiff, ↓reduceIte, Int.reduceLT, Int.reduceLE, Int.reduceToNat, Int.reduceEq, Int.reduceNe, Nat.reduceAdd, UInt8.reduceOfNat, UInt16.reduceOfNat, UInt32.reduceOfNat, UInt64.reduceOfNat, UInt64.reduceToNat, UInt32.reduceToNat, UInt16.reduceToNat, UInt8.reduceToNat, Int.reduceAdd, Int.reduceSub, Int.reduceMul, Nat.reduceMul, Qp0, Ql0, Qe0, hkt]
    · simp -dsimp -implicitDefEqProofs (disch := first | omega | assumption | (simp only [Option.isSome_some, Qt0]; done) | (simp only [UInt64.reduceToNat, UInt32.reduceToNat, UInt8.reduceToNat, List.length_cons, List.length_nil, List.length_append, Int.toNat_natCast] <;> omega) | fail) only [Nat.reduceLT, Nat.reduceLeDiff, Nat.reduceEqDiff, ↓reduceIte, Int.reduceLT, Int.reduceLE, Int.reduceToNat, Int.reduceEq, Int.reduceNe, Nat.reduceAdd, UInt8.reduceOfNat, UInt16.reduceOfNat, UInt32.reduceOfNat, UInt64.reduceOfNat, UInt64.reduceToNat, UInt32.reduceToNat, UInt16.reduceToNat, UInt8.reduceToNat, Int.reduceAdd, Int.reduceSub, Int.reduceMul, Nat.reduceMul, Qp0, Ql0, Qe0, hkt]
    · simp -dsimp -implicitDefEqProofs (disch := first | omega | assumption | (simp only [Option.isSome_some, Qt0]; done) | (simp only [UInt64.reduceToNat, UInt32.reduceToNat, UInt8.reduceToNat, List.length_cons, List.length_nil, List.length_append, Int.toNat_natCast] <;> omega) | fail) only [Nat.reduceLT, Nat.reduceLeDiff, Nat.reduceEqDiff, ↓reduceIte, Int.reduceLT, Int.reduceLE, Int.reduceToNat, Int.reduceEq, Int.reduceNe, Nat.reduceAdd, UInt8.reduceOfNat, UInt16.reduceOfNat, UInt32.reduceOfNat, UInt64.reduceOfNat, UInt64.reduceToNat, UInt32.reduceToNat, UInt16.reduceToNat, UInt8.reduceToNat, Int.reduceAdd, Int.reduceSub, Int.reduceMul, Nat.reduceMul, Qp0, Ql0, Qe0, hkt]
    · simp -dsimp -implicitDefEqProofs (disch := first | omega | assumption | (simp only [Option.isSome_some, Qt0]; done) | (simp only [UInt64.reduceToNat, UInt32.reduceToNat, UInt8.reduceToNat, List.length_cons, List.length_nil, List.length_append, Int.toNat_natCast] <;> omega) | fail) only [Nat.reduceLT, Nat.reduceLeDiff, Nat.reduceEqDiff, ↓reduceIte, Int.reduceLT, Int.reduceLE, Int.reduceToNat, Int.reduceEq, Int.reduceNe, Nat.reduceAdd, UInt8.reduceOfNat, UInt16.reduceOfNat, UInt32.reduceOfNat, UInt64.reduceOfNat, UInt64.reduceToNat, UInt32.reduceToNat, UInt16.reduceToNat, UInt8.reduceToNat, Int.reduceAdd, Int.reduceSub, Int.reduceMul, Nat.reduceMul, Qp0, Ql0, Qe0, hkt]
    rintro m f h' ⟨i, v, him, f0, f2, f7, f8, f9, how⟩
    have hc' := how.le.m _ _ hc
    by_cases hi : i < n
    · have e1 : decide ((i : Int) < (n : Int)) = true := decide_eq_true (by omega)
      obtain ⟨y, hy⟩ : ∃ y, Y.getD i 0 = y := ⟨_, rfl⟩
      obtain ⟨z, hz⟩ : ∃ z, (if lost mask i = true then 0 else y) = z := ⟨_, rfl⟩
      have hnext : bs (lossL mask Y (i + 1)) = bs (lossL mask Y i) ++ [u8 z] := by rw [lossL, hy, hz]; simp [bs]
      have hlz : lost mask i = (!(decide (mask = [])) && decide (mask.getD (i % mask.length) 0 % 2 = 0)) := rfl
      have fin : ∀ zz : UInt8, zz = z → ∀ (K : Value → PH → Prop) (w1 : Value) (p : Nat), h'.top ≤ p → (∀ v' h3, OwnS h h3 1 v' (i + 1) (bs (lossL mask Y (i + 1))) → K v' h3) → Does Tryd.prog w0 (h'.new p ⟨[u8 zz], 1⟩) (Builtin.append_ #[46, 46] 46 #[v, .slice (some ⟨p, 0, none⟩) 1 1]) K := by
        intro zz hzz K w1 p hp hK
        subst hzz
        refine Does_app el_u8 (how.more ((PH.Le.refl _).new _ _ hp)).own (Rs.blk (k := ⟨[u8 zz], 1⟩) (by rw [PH.new_m, if_pos rfl]) rfl) (bs_one [zz]) (by unfold maxLen; omega) (by omega) (fun v' h3' ho hst => ?_)
        have hou' := (how.more ((PH.Le.refl _).new _ _ hp)).stays hst ho
        rw [← hnext] at hou'
        exact hK _ _ hou'
      by_cases hmn : mask = []
      · have hz0 : y = z := by rw [← hz, hlz, hmn]; simp
        have e2 : decide ((mask.length : Int) > 0) = false := decide_eq_false (by rw [hmn]; simp)
        simp -dsimp -implicitDefEqProofs (disch := first | omega | assumption | (simp only [Option.isSome_some, Qt0]; done) | (simp only [UInt64.reduceToNat, UInt32.reduceToNat, UInt8.reduceToNat, List.length_cons, List.length_nil, List.length_append, Int.toNat_natCast] <;> omega) | fail) only [Nat.reduceLT, Nat.reduceLeDiff, Nat.reduceEqDiff, ↓reduceIte, Int.reduceLT, Int.reduceLE, Int.reduceToNat, Int.reduceEq, Int.reduceNe, Nat.reduceAdd, UInt8.reduceOfNat, UInt16.reduceOfNat, UInt32.reduceOfNat, UInt64.reduceOfNat, UInt64.reduceToNat, UInt32.reduceToNat, UInt16.reduceToNat, UInt8.reduceToNat, Int.reduceAdd, Int.reduceSub, Int.reduceMul, Nat.reduceMul, Qp0, Ql0, Qe0, f0, f2, f7, f8, f9, e1, rd_M, rdM_some, hc', hy, e2]
        refine Does_one (v := u8 _) el_u8 rfl (by omega) (fun gb hgb => ?_)
        simp -dsimp -implicitDefEqProofs (disch := first | omega | assumption | (simp only [Option.isSome_some, Qt0]; done) | (simp only [UInt64.reduceToNat, UInt32.reduceToNat, UInt8.reduceToNat, List.length_cons, List.length_nil, List.length_append, Int.toNat_natCast] <;> omega) | fail) only [Nat.reduceLT, Nat.reduceLeDiff, Nat.reduceEqDiff, ↓reduceIte, Int.reduceLT, Int.reduceLE, Int.reduceToNat, Int.reduceEq, Int.reduceNe, Nat.reduceAdd, UInt8.reduceOfNat, UInt16.reduceOfNat, UInt32.reduceOfNat, UInt64.reduceOfNat, UInt64.reduceToNat, UInt32.reduceToNat, UInt16.reduceToNat, UInt8.reduceToNat, Int.reduceAdd, Int.reduceSub, Int.reduceMul, Nat.reduceMul, Qp0, Ql0, Qe0, f0, f2, f7, f8, f9]
        refine fin _ hz0 _ undef gb hgb fun v' h3 hou => ?_
        simp -dsimp -implicitDefEqProofs (disch := first | omega | assumption | (simp only [Option.isSome_some, Qt0]; done) | (simp only [UInt64.reduceToNat, UInt32.reduceToNat, UInt8.reduceToNat, List.length_cons, List.length_nil, List.length_append, Int.toNat_natCast] <;> omega) | fail) only [Nat.reduceLT, Nat.reduceLeDiff, Nat.reduceEqDiff, ↓reduceIte, Int.reduceLT, Int.reduceLE, Int.reduceToNat, Int.reduceEq, Int.reduceNe, Nat.reduceAdd, UInt8.reduceOfNat, UInt16.reduceOfNat, UInt32.reduceOfNat, UInt64.reduceOfNat, UInt64.reduceToNat, UInt32.reduceToNat, UInt16.reduceToNat, UInt8.reduceToNat, Int.reduceAdd, Int.reduceSub, Int.reduceMul, Nat.reduceMul, Qp0, Ql0, Qe0, f0, f2, f7, f8, f9]
        exact ⟨m - 1, _, by omega, PH.Le.refl _, i + 1, v', by omega, by trivial, by trivial, by trivial, by trivial, by simp, hou⟩
      have hml : 0 < mask.length := List.length_pos_iff.2 hmn
      have e2 : decide ((mask.length : Int) > 0) = true := decide_eq_true (by omega)
      have hmod : ((i : Int) % (mask.length : Int)) = ((i % mask.length : Nat) : Int) := by omega
      have hmlt : i % mask.length < mask.length := Nat.mod_lt _ hml
      obtain ⟨q, hq⟩ : ∃ q, mask.getD (i % mask.length) 0 = q := ⟨_, rfl⟩
      by_cases hq2 : q % 2 = 0
      · have e3 := decide_eq_true hq2
        have hz0 : (0 : UInt8) = z := by rw [← hz, hlz, hq, e3]; simp [hmn]
        simp -dsimp -implicitDefEqProofs (disch := first | omega | assumption | (simp only [Option.isSome_some, Qt0]; done) | (simp only [UInt64.reduceToNat, UInt32.reduceToNat, UInt8.reduceToNat, List.length_cons, List.length_nil, List.length_append, Int.toNat_natCast] <;> omega) | fail) only [Nat.reduceLT, Nat.reduceLeDiff, Nat.reduceEqDiff, ↓reduceIte, Int.reduceLT, Int.reduceLE, Int.reduceToNat, Int.reduceEq, Int.reduceNe, Nat.reduceAdd, UInt8.reduceOfNat, UInt16.reduceOfNat, UInt32.reduceOfNat, UInt64.reduceOfNat, UInt64.reduceToNat, UInt32.reduceToNat, UInt16.reduceToNat, UInt8.reduceToNat, Int.reduceAdd, Int.reduceSub, Int.reduceMul, Nat.reduceMul, Qp0, Ql0, Qe0, f0, f2, f7, f8, f9, e1, rd_M, rdM_some, hc', hy, e2, hmod, hq, e3]
        refine Does_one (v := u8 _) el_u8 rfl (by omega) (fun gb hgb => ?_)
        simp -dsimp -implicitDefEqProofs (disch := first | omega | assumption | (simp only [Option.isSome_some, Qt0]; done) | (simp only [UInt64.reduceToNat, UInt32.reduceToNat, UInt8.reduceToNat, List.length_cons, List.length_nil, List.length_append, Int.toNat_natCast] <;> omega) | fail) only [Nat.reduceLT, Nat.reduceLeDiff, Nat.reduceEqDiff, ↓reduceIte, Int.reduceLT, Int.reduceLE, Int.reduceToNat, Int.reduceEq, Int.reduceNe, Nat.reduceAdd, UInt8.reduceOfNat, UInt16.reduceOfNat, UInt32.reduceOfNat, UInt64.reduceOfNat, UInt64.reduceToNat, UInt32.reduceToNat, UInt16.reduceToNat, UInt8.reduceToNat, Int.reduceAdd, Int.reduceSub, Int.reduceMul, Nat.reduceMul, Qp0, Ql0, Qe0, f0, f2, f7, f8, f9]
        refine fin _ hz0 _ undef gb hgb fun v' h3 hou => ?_
        simp -dsimp -implicitDefEqProofs (disch := first | omega | assumption | (simp only [Option.isSome_some, Qt0]; done) | (simp only [UInt64.reduceToNat, UInt32.reduceToNat, UInt8.reduceToNat, List.length_cons, List.length_nil, List.length_append, Int.toNat_natCast] <;> omega) | fail) only [Nat.reduceLT, Nat.reduceLeDiff, Nat.reduceEqDiff, ↓reduceIte, Int.reduceLT, Int.reduceLE, Int.reduceToNat, Int.reduceEq, Int.reduceNe, Nat.reduceAdd, UInt8.reduceOfNat, UInt16.reduceOfNat, UInt32.reduceOfNat, UInt64.reduceOfNat, UInt64.reduceToNat, UInt32.reduceToNat, UInt16.reduceToNat, UInt8.reduceToNat, Int.reduceAdd, Int.reduceSub, Int.reduceMul, Nat.reduceMul, Qp0, Ql0, Qe0, f0, f2, f7, f8, f9]
        exact ⟨m - 1, _, by omega, PH.Le.refl _, i + 1, v', by omega, by trivial, by trivial, by trivial, by trivial, by simp, hou⟩
      · have e3 := decide_eq_false hq2
        have hz0 : y = z := by rw [← hz, hlz, hq, e3]; simp
        simp -dsimp -implicitDefEqProofs (disch := first | omega | assumption | (simp only [Option.isSome_some, Qt0]; done) | (simp only [UInt64.reduceToNat, UInt32.reduceToNat, UInt8.reduceToNat, List.length_cons, List.length_nil, List.length_append, Int.toNat_natCast] <;> omega) | fail) only [Nat.reduceLT, Nat.reduceLeDiff, Nat.reduceEqDiff, ↓reduceIte, Int.reduceLT, Int.reduceLE, Int.reduceToNat, Int.reduceEq, Int.reduceNe, Nat.reduceAdd, UInt8.reduceOfNat, UInt16.reduceOfNat, UInt32.reduceOfNat, UInt64.reduceOfNat, UInt64.reduceToNat, UInt32.reduceToNat, UInt16.reduceToNat, UInt8.reduceToNat, Int.reduceAdd, Int.reduceSub, Int.reduceMul, Nat.reduceMul, Qp0, Ql0, Qe0, f0, f2, f7, f8, f9, e1, rd_M, rdM_some, hc', hy, e2, hmod, hq, e3]
        refine Does_one (v := u8 _) el_u8 rfl (by omega) (fun gb hgb => ?_)
        simp -dsimp -implicitDefEqProofs (disch := first | omega | assumption | (simp only [Option.isSome_some, Qt0]; done) | (simp only [UInt64.reduceToNat, UInt32.reduceToNat, UInt8.reduceToNat, List.length_cons, List.length_nil, List.length_append, Int.toNat_natCast] <;> omega) | fail) only [Nat.reduceLT, Nat.reduceLeDiff, Nat.reduceEqDiff, ↓reduceIte, Int.reduceLT, Int.reduceLE, Int.reduceToNat, Int.reduceEq, Int.reduceNe, Nat.reduceAdd, UInt8.reduceOfNat, UInt16.reduceOfNat, UInt32.reduceOfNat, UInt64.reduceOfNat, UInt64.reduceToNat, UInt32.reduceToNat, UInt16.reduceToNat, UInt8.reduceToNat, Int.reduceAdd, Int.reduceSub, Int.reduceMul, Nat.reduceMul, Qp0, Ql0, Qe0, f0, f2, f7, f8, f9]
        refine fin _ hz0 _ undef gb hgb fun v' h3 hou => ?_
        simp -dsimp -implicitDefEqProofs (disch := first | omega | assumption | (simp only [Option.isSome_some, Qt0]; done) | (simp only [UInt64.reduceToNat, UInt32.reduceToNat, UInt8.reduceToNat, List.length_cons, List.length_nil, List.length_append, Int.toNat_natCast] <;> omega) | fail) only [Nat.reduceLT, Nat.reduceLeDiff, Nat.reduceEqDiff, ↓reduceIte, Int.reduceLT, Int.reduceLE, Int.reduceToNat, Int.reduceEq, Int.reduceNe, Nat.reduceAdd, UInt8.reduceOfNat, UInt16.reduceOfNat, UInt32.reduceOfNat, UInt64.reduceOfNat, UInt64.reduceToNat, UInt32.reduceToNat, UInt16.reduceToNat, UInt8.reduceToNat, Int.reduceAdd, Int.reduceSub, Int.reduceMul, Nat.reduceMul, Qp0, Ql0, Qe0, f0, f2, f7, f8, f9]
        exact ⟨m - 1, _, by omega, PH.Le.refl _, i + 1, v', by omega, by trivial, by trivial, by trivial, by trivial, by simp, hou⟩
    · obtain rfl : i = n := by omega
      have e1 : decide ((i : Int) < (i : Int)) = false := decide_eq_false (by omega)
      obtain ⟨A7, c7, rfl, _⟩ := how.own.len
      have hll := lossL_length mask Y i
      generalize lossL mask Y i = L at *
      have hRs := Rs.own (w0 := w0) how.own
      have hne : (A7 = none → i = 0) := by
        rintro rfl; rcases how.own.2 with ⟨_, h1⟩ | ⟨b, c', h1, _⟩
        · exact h1
        · cases h1
      simp -dsimp -implicitDefEqProofs (disch := first | omega | assumption | (simp only [Option.isSome_some, Qt0]; done) | (simp only [UInt64.reduceToNat, UInt32.reduceToNat, UInt8.reduceToNat, List.length_cons, List.length_nil, List.length_append, Int.toNat_natCast] <;> omega) | fail) only [Nat.reduceLT, Nat.reduceLeDiff, Nat.reduceEqDiff, ↓reduceIte, Int.reduceLT, Int.reduceLE, Int.reduceToNat, Int.reduceEq, Int.reduceNe, Nat.reduceAdd, UInt8.reduceOfNat, UInt16.reduceOfNat, UInt32.reduceOfNat, UInt64.reduceOfNat, UInt64.reduceToNat, UInt32.reduceToNat, UInt16.reduceToNat, UInt8.reduceToNat, Int.reduceAdd, Int.reduceSub, Int.reduceMul, Nat.reduceMul, Qp0, Ql0, Qe0, f0, f2, f7, f8, f9, e1]
      refine PW_mono (Q := fun e f h2 => e = .normal ∧ h2 = h'.new c ⟨[str (X ++ L), str [], .int .i64 d.room, .int .i64 (-1), .bool false], 5⟩) (PW_tr (.take 0 (.take 1 (.take 2 (.take 3 (.take 4 (.take 5 (.take 6 (.take 8 (.both 7 (.only 9 (.take 10 (.take 11 (.take 12 (.take 13 (.take 14 (.take 15 (.take 16 (.take 17 (.take 18 (.take 19 (.take 20 (.take 21 (.last 22)))))))))))))) 9 (.only 7 (.take 10 (.take 11 (.take 12 (.take 13 (.take 14 (.take 15 (.take 16 (.take 17 (.take 18 (.take 19 (.take 20 (.take 21 (.last 22))))))))))))))))))))))) (h'.del c) (by kernel_rfl) (by decide +kernel) (by kernel_rfl) (by kernel_rfl) (by kernel_rfl) (fun c f h hq => by cases hq.1) ?_ ?_) ?_
      · exact ((PH.Le.refl _).del_self c).sub
      · simp -dsimp -implicitDefEqProofs (disch := first | omega | assumption | (simp only [Option.isSome_some, Qt0]; done) | (simp only [UInt64.reduceToNat, UInt32.reduceToNat, UInt8.reduceToNat, List.length_cons, List.length_nil, List.length_append, Int.toNat_natCast] <;> omega) | fail) only [Nat.reduceLT, Nat.reduceLeDiff, Nat.reduceEqDiff, ↓reduceIte, Int.reduceLT, Int.reduceLE, Int.reduceToNat, Int.reduceEq, Int.reduceNe, Nat.reduceAdd, UInt8.reduceOfNat, UInt16.reduceOfNat, UInt32.reduceOfNat, UInt64.reduceOfNat, UInt64.reduceToNat, UInt32.reduceToNat, UInt16.reduceToNat, UInt8.reduceToNat, Int.reduceAdd, Int.reduceSub, Int.reduceMul, Nat.reduceMul, Qp0, Ql0, Qe0, vcUS_done, vcUS_take, vcUS_only, vcUS_both, vcUS_last, vcUO_some, vcUL_some, vcUE_some, f0, f2, f7, f8, f9, rd_M, rdM_some, hc', List.set_cons_zero, List.set_cons_succ, PH.new_new]
        refine ⟨?_, ?_⟩
        · refine ⟨((PH.Le.refl _).del_self c).sub, ?_⟩
          simp -dsimp -implicitDefEqProofs (disch := first | omega | assumption | (simp only [Option.isSome_some, Qt0]; done) | (simp only [UInt64.reduceToNat, UInt32.reduceToNat, UInt8.reduceToNat, List.length_cons, List.length_nil, List.length_append, Int.toNat_natCast] <;> omega) | fail) only [Nat.reduceLT, Nat.reduceLeDiff, Nat.reduceEqDiff, ↓reduceIte, Int.reduceLT, Int.reduceLE, Int.reduceToNat, Int.reduceEq, Int.reduceNe, Nat.reduceAdd, UInt8.reduceOfNat, UInt16.reduceOfNat, UInt32.reduceOfNat, UInt64.reduceOfNat, UInt64.reduceToNat, UInt32.reduceToNat, UInt16.reduceToNat, UInt8.reduceToNat, Int.reduceAdd, Int.reduceSub, Int.reduceMul, Nat.reduceMul, Qp0, Ql0, Qe0, vcUS_done, vcUS_take, vcUS_only, vcUS_both, vcUS_last, vcUO_some, vcUL_some, vcUE_some, f0, f2, f7, f8, f9, rd_M, rdM_some, hc', List.set_cons_zero, List.set_cons_succ, PH.new_new]
          refine vtext_own (l := L) Tryd.underlying46 Tryd.underlying5 Tryd.underlying9 hRs hne ?_
          simp -dsimp -implicitDefEqProofs (disch := first | omega | assumption | (simp only [Option.isSome_some, Qt0]; done) | (simp only [UInt64.reduceToNat, UInt32.reduceToNat, UInt8.reduceToNat, List.length_cons, List.length_nil, List.length_append, Int.toNat_natCast] <;> omega) | fail) only [Nat.reduceLT, Nat.reduceLeDiff, Nat.reduceEqDiff, ↓reduceIte, Int.reduceLT, Int.reduceLE, Int.reduceToNat, Int.reduceEq, Int.reduceNe, Nat.reduceAdd, UInt8.reduceOfNat, UInt16.reduceOfNat, UInt32.reduceOfNat, UInt64.reduceOfNat, UInt64.reduceToNat, UInt32.reduceToNat, UInt16.reduceToNat, UInt8.reduceToNat, Int.reduceAdd, Int.reduceSub, Int.reduceMul, Nat.reduceMul, Qp0, Ql0, Qe0, vcUS_done, vcUS_take, vcUS_only, vcUS_both, vcUS_last, vcUO_some, vcUL_some, vcUE_some, f0, f2, f7, f8, f9, rd_M, rdM_some, hc', List.set_cons_zero, List.set_cons_succ, PH.new_new]
          refine ⟨((PH.Le.refl _).del_self c).sub, ?_⟩
          simp -dsimp -implicitDefEqProofs (disch := first | omega | assumption | (simp only [Option.isSome_some, Qt0]; done) | (simp only [UInt64.reduceToNat, UInt32.reduceToNat, UInt8.reduceToNat, List.length_cons, List.length_nil, List.length_append, Int.toNat_natCast] <;> omega) | fail) only [Nat.reduceLT, Nat.reduceLeDiff, Nat.reduceEqDiff, ↓reduceIte, Int.reduceLT, Int.reduceLE, Int.reduceToNat, Int.reduceEq, Int.reduceNe, Nat.reduceAdd, UInt8.reduceOfNat, UInt16.reduceOfNat, UInt32.reduceOfNat, UInt64.reduceOfNat, UInt64.reduceToNat, UInt32.reduceToNat, UInt16.reduceToNat, UInt8.reduceToNat, Int.reduceAdd, Int.reduceSub, Int.reduceMul, Nat.reduceMul, Qp0, Ql0, Qe0, vcUS_done, vcUS_take, vcUS_only, vcUS_both, vcUS_last, vcUO_some, vcUL_some, vcUE_some, f0, f2, f7, f8, f9, rd_M, rdM_some, hc', List.set_cons_zero, List.set_cons_succ, PH.new_new]
          refine ⟨(PH.Le.del_new h' c _ (by rw [hc']; rfl)).sub, ?_⟩
          simp -dsimp -implicitDefEqProofs (disch := first | omega | assumption | (simp only [Option.isSome_some, Qt0]; done) | (simp only [UInt64.reduceToNat, UInt32.reduceToNat, UInt8.reduceToNat, List.length_cons, List.length_nil, List.length_append, Int.toNat_natCast] <;> omega) | fail) only [Nat.reduceLT, Nat.reduceLeDiff, Nat.reduceEqDiff, ↓reduceIte, Int.reduceLT, Int.reduceLE, Int.reduceToNat, Int.reduceEq, Int.reduceNe, Nat.reduceAdd, UInt8.reduceOfNat, UInt16.reduceOfNat, UInt32.reduceOfNat, UInt64.reduceOfNat, UInt64.reduceToNat, UInt32.reduceToNat, UInt16.reduceToNat, UInt8.reduceToNat, Int.reduceAdd, Int.reduceSub, Int.reduceMul, Nat.reduceMul, Qp0, Ql0, Qe0, vcUS_done, vcUS_take, vcUS_only, vcUS_both, vcUS_last, vcUO_some, vcUL_some, vcUE_some, f0, f2, f7, f8, f9, rd_M, rdM_some, hc', List.set_cons_zero, List.set_cons_succ, PH.new_new]
          refine ⟨(PH.Le.del_new h' c _ (by rw [hc']; rfl)).sub, ?_⟩
          simp -dsimp -implicitDefEqProofs (disch := first | omega | assumption | (simp only [Option.isSome_some, Qt0]; done) | (simp only [UInt64.reduceToNat, UInt32.reduceToNat, UInt8.reduceToNat, List.length_cons, List.length_nil, List.length_append, Int.toNat_natCast] <;> omega) | fail) only [Nat.reduceLT, Nat.reduceLeDiff, Nat.reduceEqDiff, ↓reduceIte, Int.reduceLT, Int.reduceLE, Int.reduceToNat, Int.reduceEq, Int.reduceNe, Nat.reduceAdd, UInt8.reduceOfNat, UInt16.reduceOfNat, UInt32.reduceOfNat, UInt64.reduceOfNat, UInt64.reduceToNat, UInt32.reduceToNat, UInt16.reduceToNat, UInt8.reduceToNat, Int.reduceAdd, Int.reduceSub, Int.reduceMul, Nat.reduceMul, Qp0, Ql0, Qe0, vcUS_done, vcUS_take, vcUS_only, vcUS_both, vcUS_last, vcUO_some, vcUL_some, vcUE_some, f0, f2, f7, f8, f9, rd_M, rdM_some, hc', List.set_cons_zero, List.set_cons_succ, PH.new_new]
          refine ⟨(PH.Le.del_new h' c _ (by rw [hc']; rfl)).sub, ?_⟩
          simp -dsimp -implicitDefEqProofs (disch := first | omega | assumption | (simp only [Option.isSome_some, Qt0]; done) | (simp only [UInt64.reduceToNat, UInt32.reduceToNat, UInt8.reduceToNat, List.length_cons, List.length_nil, List.length_append, Int.toNat_natCast] <;> omega) | fail) only [Nat.reduceLT, Nat.reduceLeDiff, Nat.reduceEqDiff, ↓reduceIte, Int.reduceLT, Int.reduceLE, Int.reduceToNat, Int.reduceEq, Int.reduceNe, Nat.reduceAdd, UInt8.reduceOfNat, UInt16.reduceOfNat, UInt32.reduceOfNat, UInt64.reduceOfNat, UInt64.reduceToNat, UInt32.reduceToNat, UInt16.reduceToNat, UInt8.reduceToNat, Int.reduceAdd, Int.reduceSub, Int.reduceMul, Nat.reduceMul, Qp0, Ql0, Qe0, vcUS_done, vcUS_take, vcUS_only, vcUS_both, vcUS_last, vcUO_some, vcUL_some, vcUE_some, f0, f2, f7, f8, f9, rd_M, rdM_some, hc', List.set_cons_zero, List.set_cons_succ, PH.new_new]
          exact ⟨by trivial, by trivial⟩
        · refine vtext_own (l := L) Tryd.underlying46 Tryd.underlying5 Tryd.underlying9 hRs hne ?_
          simp -dsimp -implicitDefEqProofs (disch := first | omega | assumption | (simp only [Option.isSome_some, Qt0]; done) | (simp only [UInt64.reduceToNat, UInt32.reduceToNat, UInt8.reduceToNat, List.length_cons, List.length_nil, List.length_append, Int.toNat_natCast] <;> omega) | fail) only [Nat.reduceLT, Nat.reduceLeDiff, Nat.reduceEqDiff, ↓reduceIte, Int.reduceLT, Int.reduceLE, Int.reduceToNat, Int.reduceEq, Int.reduceNe, Nat.reduceAdd, UInt8.reduceOfNat, UInt16.reduceOfNat, UInt32.reduceOfNat, UInt64.reduceOfNat, UInt64.reduceToNat, UInt32.reduceToNat, UInt16.reduceToNat, UInt8.reduceToNat, Int.reduceAdd, Int.reduceSub, Int.reduceMul, Nat.reduceMul, Qp0, Ql0, Qe0, vcUS_done, vcUS_take, vcUS_only, vcUS_both, vcUS_last, vcUO_some, vcUL_some, vcUE_some, f0, f2, f7, f8, f9, rd_M, rdM_some, hc', List.set_cons_zero, List.set_cons_succ, PH.new_new]
          refine ⟨((PH.Le.refl _).del_self c).sub, ?_⟩
          simp -dsimp -implicitDefEqProofs (disch := first | omega | assumption | (simp only [Option.isSome_some, Qt0]; done) | (simp only [UInt64.reduceToNat, UInt32.reduceToNat, UInt8.reduceToNat, List.length_cons, List.length_nil, List.length_append, Int.toNat_natCast] <;> omega) | fail) only [Nat.reduceLT, Nat.reduceLeDiff, Nat.reduceEqDiff, ↓reduceIte, Int.reduceLT, Int.reduceLE, Int.reduceToNat, Int.reduceEq, Int.reduceNe, Nat.reduceAdd, UInt8.reduceOfNat, UInt16.reduceOfNat, UInt32.reduceOfNat, UInt64.reduceOfNat, UInt64.reduceToNat, UInt32.reduceToNat, UInt16.reduceToNat, UInt8.reduceToNat, Int.reduceAdd, Int.reduceSub, Int.reduceMul, Nat.reduceMul, Qp0, Ql0, Qe0, vcUS_done, vcUS_take, vcUS_only, vcUS_both, vcUS_last, vcUO_some, vcUL_some, vcUE_some, f0, f2, f7, f8, f9, rd_M, rdM_some, hc', List.set_cons_zero, List.set_cons_succ, PH.new_new]
          refine ⟨((PH.Le.refl _).del_self c).sub, ?_⟩
          simp -dsimp -implicitDefEqProofs (disch := first | omega | assumption | (simp only [Option.isSome_some, Qt0]; done) | (simp only [UInt64.reduceToNat, UInt32.reduceToNat, UInt8.reduceToNat, List.length_cons, List.length_nil, List.length_append, Int.toNat_natCast] <;> omega) | fail) only [Nat.reduceLT, Nat.reduceLeDiff, Nat.reduceEqDiff, ↓reduceIte, Int.reduceLT, Int.reduceLE, Int.reduceToNat, Int.reduceEq, Int.reduceNe, Nat.reduceAdd, UInt8.reduceOfNat, UInt16.reduceOfNat, UInt32.reduceOfNat, UInt64.reduceOfNat, UInt64.reduceToNat, UInt32.reduceToNat, UInt16.reduceToNat, UInt8.reduceToNat, Int.reduceAdd, Int.reduceSub, Int.reduceMul, Nat.reduceMul, Qp0, Ql0, Qe0, vcUS_done, vcUS_take, vcUS_only, vcUS_both, vcUS_last, vcUO_some, vcUL_some, vcUE_some, f0, f2, f7, f8, f9, rd_M, rdM_some, hc', List.set_cons_zero, List.set_cons_succ, PH.new_new]
          refine ⟨(PH.Le.del_new h' c _ (by rw [hc']; rfl)).sub, ?_⟩
          simp -dsimp -implicitDefEqProofs (disch := first | omega | assumption | (simp only [Option.isSome_some, Qt0]; done) | (simp only [UInt64.reduceToNat, UInt32.reduceToNat, UInt8.reduceToNat, List.length_cons, List.length_nil, List.length_append, Int.toNat_natCast] <;> omega) | fail) only [Nat.reduceLT, Nat.reduceLeDiff, Nat.reduceEqDiff, ↓reduceIte, Int.reduceLT, Int.reduceLE, Int.reduceToNat, Int.reduceEq, Int.reduceNe, Nat.reduceAdd, UInt8.reduceOfNat, UInt16.reduceOfNat, UInt32.reduceOfNat, UInt64.reduceOfNat, UInt64.reduceToNat, UInt32.reduceToNat, UInt16.reduceToNat, UInt8.reduceToNat, Int.reduceAdd, Int.reduceSub, Int.reduceMul, Nat.reduceMul, Qp0, Ql0, Qe0, vcUS_done, vcUS_take, vcUS_only, vcUS_both, vcUS_last, vcUO_some, vcUL_some, vcUE_some, f0, f2, f7, f8, f9, rd_M, rdM_some, hc', List.set_cons_zero, List.set_cons_succ, PH.new_new]
          refine ⟨(PH.Le.del_new h' c _ (by rw [hc']; rfl)).sub, ?_⟩
          simp -dsimp -implicitDefEqProofs (disch := first | omega | assumption | (simp only [Option.isSome_some, Qt0]; done) | (simp only [UInt64.reduceToNat, UInt32.reduceToNat, UInt8.reduceToNat, List.length_cons, List.length_nil, List.length_append, Int.toNat_natCast] <;> omega) | fail) only [Nat.reduceLT, Nat.reduceLeDiff, Nat.reduceEqDiff, ↓reduceIte, Int.reduceLT, Int.reduceLE, Int.reduceToNat, Int.reduceEq, Int.reduceNe, Nat.reduceAdd, UInt8.reduceOfNat, UInt16.reduceOfNat, UInt32.reduceOfNat, UInt64.reduceOfNat, UInt64.reduceToNat, UInt32.reduceToNat, UInt16.reduceToNat, UInt8.reduceToNat, Int.reduceAdd, Int.reduceSub, Int.reduceMul, Nat.reduceMul, Qp0, Ql0, Qe0, vcUS_done, vcUS_take, vcUS_only, vcUS_both, vcUS_last, vcUO_some, vcUL_some, vcUE_some, f0, f2, f7, f8, f9, rd_M, rdM_some, hc', List.set_cons_zero, List.set_cons_succ, PH.new_new]
          refine ⟨(PH.Le.del_new h' c _ (by rw [hc']; rfl)).sub, ?_⟩
          simp -dsimp -implicitDefEqProofs (disch := first | omega | assumption | (simp only [Option.isSome_some, Qt0]; done) | (simp only [UInt64.reduceToNat, UInt32.reduceToNat, UInt8.reduceToNat, List.length_cons, List.length_nil, List.length_append, Int.toNat_natCast] <;> omega) | fail) only [Nat.reduceLT, Nat.reduceLeDiff, Nat.reduceEqDiff, ↓reduceIte, Int.reduceLT, Int.reduceLE, Int.reduceToNat, Int.reduceEq, Int.reduceNe, Nat.reduceAdd, UInt8.reduceOfNat, UInt16.reduceOfNat, UInt32.reduceOfNat, UInt64.reduceOfNat, UInt64.reduceToNat, UInt32.reduceToNat, UInt16.reduceToNat, UInt8.reduceToNat, Int.reduceAdd, Int.reduceSub, Int.reduceMul, Nat.reduceMul, Qp0, Ql0, Qe0, vcUS_done, vcUS_take, vcUS_only, vcUS_both, vcUS_last, vcUO_some, vcUL_some, vcUE_some, f0, f2, f7, f8, f9, rd_M, rdM_some, hc', List.set_cons_zero, List.set_cons_succ, PH.new_new]
          exact ⟨by trivial, by trivial⟩
      · rintro e f h2 ⟨rfl, rfl⟩
        simp -dsimp -implicitDefEqProofs (disch := first | omega | assumption | (simp only [Option.isSome_some, Qt0]; done) | (simp only [UInt64.reduceToNat, UInt32.reduceToNat, UInt8.reduceToNat, List.length_cons, List.length_nil, List.length_append, Int.toNat_natCast] <;> omega) | fail) only [Nat.reduceLT, Nat.reduceLeDiff, Nat.reduceEqDiff, ↓reduceIte, Int.reduceLT, Int.reduceLE, Int.reduceToNat, Int.reduceEq, Int.reduceNe, Nat.reduceAdd, UInt8.reduceOfNat, UInt16.reduceOfNat, UInt32.reduceOfNat, UInt64.reduceOfNat, UInt64.reduceToNat, UInt32.reduceToNat, UInt16.reduceToNat, UInt8.reduceToNat, Int.reduceAdd, Int.reduceSub, Int.reduceMul, Nat.reduceMul, Qp0, Ql0, Qe0]
        refine ⟨_, PH.Le.refl _, ⟨by simp only [PH.new_top]; have := how.le.top; omega, fun z k e => ?_⟩⟩
        rw [PH.new_m] at e ⊢
        by_cases hz : z = c
        · rw [if_pos hz] at e ⊢; exact e
        · rw [if_neg hz] at e ⊢; exact how.le.m _ _ e
end
end Go.Proofs.YtcjojkhieocehaaDoor
