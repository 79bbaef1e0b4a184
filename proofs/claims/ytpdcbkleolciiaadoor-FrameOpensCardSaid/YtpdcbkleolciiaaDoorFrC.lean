/- Walk of the reference's Sum: the division, bit by bit. No condition. -/
import Derived.Test.YtpdcbkleolciiaaDoorFrW
import Derived.Test.YtpdcbkleolciiaaDoorFrB
namespace Go.Proofs.YtpdcbkleolciiaaDoor
set_option linter.unusedVariables false
set_option linter.unusedSimpArgs false
open Go.RowKit Px
theorem info_intf : (Tryd.prog.info? 3).map (fun i => (i.zero, i.size, i.bytes)) = some (some (.int .i64 0), 1, 8) := by kernel_rfl
theorem el_intf : El Tryd.prog 85 3 (.int .i64 0) 1 8 := ⟨Tryd.underlying85, info_parts info_intf, rfl, by decide⟩
/-- A bit as the program keeps it. -/
def ib (b : Bool) : Value := .int .i64 (if b then 1 else 0)
def ibs (l : List Bool) : List Value := l.map ib
theorem ibs_length (l : List Bool) : (ibs l).length = l.length := by simp [ibs]
theorem ibs_append (a b : List Bool) : ibs (a ++ b) = ibs a ++ ibs b := by simp [ibs]
theorem ib_one (b : Bool) : One (ib b) := by cases b <;> exact ⟨rfl, rfl⟩
theorem ibs_one (l : List Bool) : allOne (ibs l) := by
  intro v hv
  obtain ⟨b, _, rfl⟩ := List.mem_map.1 hv
  cases b <;> rfl
theorem ib_mod (C : Nat) : Value.int .i64 ((C : Int) % 2) = ib (C % 2 == 1) := by
  unfold ib
  rcases Nat.mod_two_eq_zero_or_one C with h | h
  · rw [h, show (C : Int) % 2 = 0 by omega]; rfl
  · rw [h, show (C : Int) % 2 = 1 by omega]; rfl
theorem rd_ib {w0 : World} {h : PH} {b k lim : Nat} {L : List Bool} {x : Bool} (hb : h.m b = some ⟨ibs L, lim⟩) (hk : k < L.length) (hx : L.getD k false = x) : rd w0 h ⟨b, k, none⟩ = some (ib x) := by
  have : (ibs L)[k]? = some (ib x) := by
    subst hx
    simp [ibs, List.getD, List.getElem?_eq_getElem hk]
  simp [rd_M, hb, rdM_some, this]
theorem set_ib {L : List Bool} {k : Nat} {x : Bool} (hx : L.getD k false = x) : (ibs L).set k (ib (!x)) = ibs (Fm.flip L k) := by
  unfold Fm.flip ibs
  rw [hx, List.map_set]
theorem set0 {L : List Bool} {k : Nat} (hx : L.getD k false = false) : (ibs L).set k (.int .i64 1) = ibs (Fm.flip L k) := set_ib hx
theorem set1 {L : List Bool} {k : Nat} (hx : L.getD k false = true) : (ibs L).set k (.int .i64 0) = ibs (Fm.flip L k) := set_ib hx
theorem rd0 {w0 : World} {h : PH} {b k lim : Nat} {L : List Bool} (hb : h.m b = some ⟨ibs L, lim⟩) (hk : k < L.length) (hx : L.getD k false = false) : rd w0 h ⟨b, k, none⟩ = some (.int .i64 0) := rd_ib hb hk hx
theorem rd1 {w0 : World} {h : PH} {b k lim : Nat} {L : List Bool} (hb : h.m b = some ⟨ibs L, lim⟩) (hk : k < L.length) (hx : L.getD k false = true) : rd w0 h ⟨b, k, none⟩ = some (.int .i64 1) := rd_ib hb hk hx
def pws : List Value := [.int .i64 28, .int .i64 27, .int .i64 26, .int .i64 25, .int .i64 23, .int .i64 22, .int .i64 20, .int .i64 19, .int .i64 18, .int .i64 14, .int .i64 13, .int .i64 11, .int .i64 10, .int .i64 9, .int .i64 8, .int .i64 6, .int .i64 0]
theorem pws_get (j : Nat) (hj : j < 17) : pws[j]? = some (.int .i64 (Fm.pw.getD j 0 : Nat)) ∧ Fm.pw.getD j 0 ≤ 28 ∧ Fm.pw.take (j + 1) = Fm.pw.take j ++ [Fm.pw.getD j 0] := by
  have : ∀ j, j < 17 → Fm.pw.getD j 0 ≤ 28 ∧ Fm.pw.take (j + 1) = Fm.pw.take j ++ [Fm.pw.getD j 0] := by decide
  refine ⟨?_, this j hj⟩
  rcases j with _|_|_|_|_|_|_|_|_|_|_|_|_|_|_|_|_|j <;> first | rfl | omega
theorem msg_next (l : List UInt8) (k : Nat) (hk : k < l.length) : Fm.msg (l.take (k + 1)) = Fm.msg (l.take k) ++ Fm.bitsN 8 (l.getD k 0).toNat := by
  unfold Fm.msg
  rw [List.take_succ_eq_append_getElem hk, List.flatMap_append]
  simp [List.getD, List.getElem?_eq_getElem hk]
set_option maxRecDepth 100000 in
set_option maxHeartbeats 4000000 in
theorem rsum_any (l : List UInt8) (hl : l.length ≤ 20000) (v0 : Value) (w0 : World) (h : PH) (hv : Kn h v0 (bs l)) : PCalls Tryd.prog w0 27 [v0] h fun v h' => v = u32 (Fm.sum l) ∧ h' = h := by
  obtain ⟨b, o, c, X, lim, rfl, hc, hb, ho, hX⟩ := hv
  rw [bs_length] at hc ho ⊢
  refine PCalls_body Tryd.func27 (by kernel_rfl) rfl _ Tryd.ntmps27 (by kernel_rfl) (by kernel_rfl) _ Tryd.results27 ?_
  simp -dsimp -implicitDefEqProofs (disch := first | omega | assumption | (simp only [Option.isSome_some, Qt0]; done) | (simp only [UInt64.reduceToNat, UInt32.reduceToNat, UInt8.reduceToNat, List.length_cons, List.length_nil, List.length_append, Int.toNat_natCast] <;> omega)) only [Nat.reduceLT, Nat.reduceLeDiff, Nat.reduceEqDiff, ↓reduceIte, Int.reduceLT, Int.reduceLE, Int.reduceToNat, Int.reduceEq, Int.reduceNe, Nat.reduceAdd, UInt8.reduceOfNat, UInt16.reduceOfNat, UInt32.reduceOfNat, UInt64.reduceOfNat, UInt64.reduceToNat, UInt32.reduceToNat, UInt16.reduceToNat, UInt8.reduceToNat, Int.reduceAdd, Int.reduceSub, Int.reduceMul, Nat.reduceMul, Qp0, Ql0, Qe0]
  refine Does_zero el_intf (fun b0 hb0 => ?_)
  have how0 := OwnS.zero (h := h) 1 hb0
  simp -dsimp -implicitDefEqProofs (disch := first | omega | assumption | (simp only [Option.isSome_some, Qt0]; done) | (simp only [UInt64.reduceToNat, UInt32.reduceToNat, UInt8.reduceToNat, List.length_cons, List.length_nil, List.length_append, Int.toNat_natCast] <;> omega)) only [Nat.reduceLT, Nat.reduceLeDiff, Nat.reduceEqDiff, ↓reduceIte, Int.reduceLT, Int.reduceLE, Int.reduceToNat, Int.reduceEq, Int.reduceNe, Nat.reduceAdd, UInt8.reduceOfNat, UInt16.reduceOfNat, UInt32.reduceOfNat, UInt64.reduceOfNat, UInt64.reduceToNat, UInt32.reduceToNat, UInt16.reduceToNat, UInt8.reduceToNat, Int.reduceAdd, Int.reduceSub, Int.reduceMul, Nat.reduceMul, Qp0, Ql0, Qe0]
  refine PW_loop (fun n f h2 => ∃ (k : Nat) (v : Value), k + n = l.length ∧ f 0 = some (.slice (some ⟨b, o, none⟩) l.length c) ∧ f 4 = some (.int .i64 k) ∧ f 3 = some v ∧ OwnS h h2 1 v (8 * k) (ibs (Fm.msg (l.take k)))) (by kernel_rfl) l.length ⟨0, _, by omega, ?_, ?_, ?_, how0⟩ ?_
  · simp -dsimp -implicitDefEqProofs (disch := first | omega | assumption | (simp only [Option.isSome_some, Qt0]; done) | (simp only [UInt64.reduceToNat, UInt32.reduceToNat, UInt8.reduceToNat, List.length_cons, List.length_nil, List.length_append, Int.toNat_natCast] <;> omega)) only [Nat.reduceLT, Nat.reduceLeDiff, Nat.reduceEqDiff, ↓reduceIte, Int.reduceLT, Int.reduceLE, Int.reduceToNat, Int.reduceEq, Int.reduceNe, Nat.reduceAdd, UInt8.reduceOfNat, UInt16.reduceOfNat, UInt32.reduceOfNat, UInt64.reduceOfNat, UInt64.reduceToNat, UInt32.reduceToNat, UInt16.reduceToNat, UInt8.reduceToNat, Int.reduceAdd, Int.reduceSub, Int.reduceMul, Nat.reduceMul, Qp0, Ql0, Qe0]
  · simp -dsimp -implicitDefEqProofs (disch := first | omega | assumption | (simp only [Option.isSome_some, Qt0]; done) | (simp only [UInt64.reduceToNat, UInt32.reduceToNat, UInt8.reduceToNat, List.length_cons, List.length_nil, List.length_append, Int.toNat_natCast] <;> omega)) only [Nat.reduceLT, Nat.reduceLeDiff, Nat.reduceEqDiff, ↓reduceIte, Int.reduceLT, Int.reduceLE, Int.reduceToNat, Int.reduceEq, Int.reduceNe, Nat.reduceAdd, UInt8.reduceOfNat, UInt16.reduceOfNat, UInt32.reduceOfNat, UInt64.reduceOfNat, UInt64.reduceToNat, UInt32.reduceToNat, UInt16.reduceToNat, UInt8.reduceToNat, Int.reduceAdd, Int.reduceSub, Int.reduceMul, Nat.reduceMul, Qp0, Ql0, Qe0]
    try rfl
  · simp -dsimp -implicitDefEqProofs (disch := first | omega | assumption | (simp only [Option.isSome_some, Qt0]; done) | (simp only [UInt64.reduceToNat, UInt32.reduceToNat, UInt8.reduceToNat, List.length_cons, List.length_nil, List.length_append, Int.toNat_natCast] <;> omega)) only [Nat.reduceLT, Nat.reduceLeDiff, Nat.reduceEqDiff, ↓reduceIte, Int.reduceLT, Int.reduceLE, Int.reduceToNat, Int.reduceEq, Int.reduceNe, Nat.reduceAdd, UInt8.reduceOfNat, UInt16.reduceOfNat, UInt32.reduceOfNat, UInt64.reduceOfNat, UInt64.reduceToNat, UInt32.reduceToNat, UInt16.reduceToNat, UInt8.reduceToNat, Int.reduceAdd, Int.reduceSub, Int.reduceMul, Nat.reduceMul, Qp0, Ql0, Qe0]
    try rfl
  clear how0
  rintro n f h2 ⟨k, v, hk, f0, f4, f3, how⟩
  by_cases hlt : k < l.length
  · have hI : decide ((k : Int) < (l.length : Int)) = true := decide_eq_true (by omega)
    have hg : X[o + k]? = some (u8 (l.getD k 0)) := by
      rw [Kn.get (n := 0) hX (by rw [bs_length]; exact hlt), bs_get l k hlt]
    have hb2 := how.le.m _ _ hb
    have hms := Lib.hid (msg_next l k hlt)
    have hc8 := (l.getD k 0).toNat_lt
    generalize l.getD k 0 = q at hg hms hc8
    simp -dsimp -implicitDefEqProofs (disch := first | omega | assumption | (simp only [Option.isSome_some, Qt0]; done) | (simp only [UInt64.reduceToNat, UInt32.reduceToNat, UInt8.reduceToNat, List.length_cons, List.length_nil, List.length_append, Int.toNat_natCast] <;> omega)) only [Nat.reduceLT, Nat.reduceLeDiff, Nat.reduceEqDiff, ↓reduceIte, Int.reduceLT, Int.reduceLE, Int.reduceToNat, Int.reduceEq, Int.reduceNe, Nat.reduceAdd, UInt8.reduceOfNat, UInt16.reduceOfNat, UInt32.reduceOfNat, UInt64.reduceOfNat, UInt64.reduceToNat, UInt32.reduceToNat, UInt16.reduceToNat, UInt8.reduceToNat, Int.reduceAdd, Int.reduceSub, Int.reduceMul, Nat.reduceMul, Qp0, Ql0, Qe0, f0, f4, f3, hI, rd_M, rdM_some, hb2, hg]
    refine PW_loop (fun n f h3 => ∃ (C : Nat) (pre : List Bool) (v : Value), n ≤ 8 ∧ C < 256 ∧ f 0 = some (.slice (some ⟨b, o, none⟩) l.length c) ∧ f 4 = some (.int .i64 k) ∧ f 6 = some (.int .i64 (8 - n : Nat)) ∧ f 5 = some (.int .i64 C) ∧ f 3 = some v ∧ pre ++ Fm.bitsN n C = Fm.bitsN 8 q.toNat ∧ OwnS h h3 1 v (8 * k + (8 - n)) (ibs (Fm.msg (l.take k) ++ pre))) (by kernel_rfl) 8 ⟨q.toNat, [], v, by omega, hc8, ?_, ?_, ?_, ?_, ?_, by simp, by simpa using how⟩ ?_
    · simp -dsimp -implicitDefEqProofs (disch := first | omega | assumption | (simp only [Option.isSome_some, Qt0]; done) | (simp only [UInt64.reduceToNat, UInt32.reduceToNat, UInt8.reduceToNat, List.length_cons, List.length_nil, List.length_append, Int.toNat_natCast] <;> omega)) only [Nat.reduceLT, Nat.reduceLeDiff, Nat.reduceEqDiff, ↓reduceIte, Int.reduceLT, Int.reduceLE, Int.reduceToNat, Int.reduceEq, Int.reduceNe, Nat.reduceAdd, UInt8.reduceOfNat, UInt16.reduceOfNat, UInt32.reduceOfNat, UInt64.reduceOfNat, UInt64.reduceToNat, UInt32.reduceToNat, UInt16.reduceToNat, UInt8.reduceToNat, Int.reduceAdd, Int.reduceSub, Int.reduceMul, Nat.reduceMul, Qp0, Ql0, Qe0, f0]
    · simp -dsimp -implicitDefEqProofs (disch := first | omega | assumption | (simp only [Option.isSome_some, Qt0]; done) | (simp only [UInt64.reduceToNat, UInt32.reduceToNat, UInt8.reduceToNat, List.length_cons, List.length_nil, List.length_append, Int.toNat_natCast] <;> omega)) only [Nat.reduceLT, Nat.reduceLeDiff, Nat.reduceEqDiff, ↓reduceIte, Int.reduceLT, Int.reduceLE, Int.reduceToNat, Int.reduceEq, Int.reduceNe, Nat.reduceAdd, UInt8.reduceOfNat, UInt16.reduceOfNat, UInt32.reduceOfNat, UInt64.reduceOfNat, UInt64.reduceToNat, UInt32.reduceToNat, UInt16.reduceToNat, UInt8.reduceToNat, Int.reduceAdd, Int.reduceSub, Int.reduceMul, Nat.reduceMul, Qp0, Ql0, Qe0, f4]
    · simp -dsimp -implicitDefEqProofs (disch := first | omega | assumption | (simp only [Option.isSome_some, Qt0]; done) | (simp only [UInt64.reduceToNat, UInt32.reduceToNat, UInt8.reduceToNat, List.length_cons, List.length_nil, List.length_append, Int.toNat_natCast] <;> omega)) only [Nat.reduceLT, Nat.reduceLeDiff, Nat.reduceEqDiff, ↓reduceIte, Int.reduceLT, Int.reduceLE, Int.reduceToNat, Int.reduceEq, Int.reduceNe, Nat.reduceAdd, UInt8.reduceOfNat, UInt16.reduceOfNat, UInt32.reduceOfNat, UInt64.reduceOfNat, UInt64.reduceToNat, UInt32.reduceToNat, UInt16.reduceToNat, UInt8.reduceToNat, Int.reduceAdd, Int.reduceSub, Int.reduceMul, Nat.reduceMul, Qp0, Ql0, Qe0]
      try rfl
    · simp -dsimp -implicitDefEqProofs (disch := first | omega | assumption | (simp only [Option.isSome_some, Qt0]; done) | (simp only [UInt64.reduceToNat, UInt32.reduceToNat, UInt8.reduceToNat, List.length_cons, List.length_nil, List.length_append, Int.toNat_natCast] <;> omega)) only [Nat.reduceLT, Nat.reduceLeDiff, Nat.reduceEqDiff, ↓reduceIte, Int.reduceLT, Int.reduceLE, Int.reduceToNat, Int.reduceEq, Int.reduceNe, Nat.reduceAdd, UInt8.reduceOfNat, UInt16.reduceOfNat, UInt32.reduceOfNat, UInt64.reduceOfNat, UInt64.reduceToNat, UInt32.reduceToNat, UInt16.reduceToNat, UInt8.reduceToNat, Int.reduceAdd, Int.reduceSub, Int.reduceMul, Nat.reduceMul, Qp0, Ql0, Qe0]
    · simp -dsimp -implicitDefEqProofs (disch := first | omega | assumption | (simp only [Option.isSome_some, Qt0]; done) | (simp only [UInt64.reduceToNat, UInt32.reduceToNat, UInt8.reduceToNat, List.length_cons, List.length_nil, List.length_append, Int.toNat_natCast] <;> omega)) only [Nat.reduceLT, Nat.reduceLeDiff, Nat.reduceEqDiff, ↓reduceIte, Int.reduceLT, Int.reduceLE, Int.reduceToNat, Int.reduceEq, Int.reduceNe, Nat.reduceAdd, UInt8.reduceOfNat, UInt16.reduceOfNat, UInt32.reduceOfNat, UInt64.reduceOfNat, UInt64.reduceToNat, UInt32.reduceToNat, UInt16.reduceToNat, UInt8.reduceToNat, Int.reduceAdd, Int.reduceSub, Int.reduceMul, Nat.reduceMul, Qp0, Ql0, Qe0, f3]
    clear hg hb2 f0 f4 f3 how
    rintro n2 f2 h3 ⟨C, pre, v2, hn, hC, g0, g4, g6, g5, g3, hpre, how2⟩
    rcases n2 with _ | m
    · have hI2 : decide (((8 - 0 : Nat) : Int) < 8) = false := rfl
      have he : Fm.msg (l.take k) ++ pre = Fm.msg (l.take (k + 1)) := by
        rw [hms.out, ← hpre]
        simp [Fm.bitsN]
      rw [he, show 8 * k + (8 - 0) = 8 * (k + 1) by omega] at how2
      simp -dsimp -implicitDefEqProofs (disch := first | omega | assumption | (simp only [Option.isSome_some, Qt0]; done) | (simp only [UInt64.reduceToNat, UInt32.reduceToNat, UInt8.reduceToNat, List.length_cons, List.length_nil, List.length_append, Int.toNat_natCast] <;> omega)) only [Nat.reduceLT, Nat.reduceLeDiff, Nat.reduceEqDiff, ↓reduceIte, Int.reduceLT, Int.reduceLE, Int.reduceToNat, Int.reduceEq, Int.reduceNe, Nat.reduceAdd, UInt8.reduceOfNat, UInt16.reduceOfNat, UInt32.reduceOfNat, UInt64.reduceOfNat, UInt64.reduceToNat, UInt32.reduceToNat, UInt16.reduceToNat, UInt8.reduceToNat, Int.reduceAdd, Int.reduceSub, Int.reduceMul, Nat.reduceMul, Qp0, Ql0, Qe0, g0, g4, g6, g5, g3, hI2]
      exact ⟨n - 1, h3, by omega, PH.Le.refl _, k + 1, v2, by omega, by simp [g0], by simp, by simp [g3], how2⟩
    · have hI2 : decide (((8 - (m + 1) : Nat) : Int) < 8) = true := decide_eq_true (by omega)
      have hr0 : (0 : Int) ≤ (C : Int) := by omega
      simp -dsimp -implicitDefEqProofs (disch := first | omega | assumption | (simp only [Option.isSome_some, Qt0]; done) | (simp only [UInt64.reduceToNat, UInt32.reduceToNat, UInt8.reduceToNat, List.length_cons, List.length_nil, List.length_append, Int.toNat_natCast] <;> omega)) only [Nat.reduceLT, Nat.reduceLeDiff, Nat.reduceEqDiff, ↓reduceIte, Int.reduceLT, Int.reduceLE, Int.reduceToNat, Int.reduceEq, Int.reduceNe, Nat.reduceAdd, UInt8.reduceOfNat, UInt16.reduceOfNat, UInt32.reduceOfNat, UInt64.reduceOfNat, UInt64.reduceToNat, UInt32.reduceToNat, UInt16.reduceToNat, UInt8.reduceToNat, Int.reduceAdd, Int.reduceSub, Int.reduceMul, Nat.reduceMul, Qp0, Ql0, Qe0, g0, g4, g6, g5, g3, hI2]
      rw [ib_mod]
      refine Does_one (v := ib _) el_intf rfl (by omega) (fun gb hgb => ?_)
      rw [show (ib (C % 2 == 1)).cells.toList = ibs [C % 2 == 1] from rfl]
      simp -dsimp -implicitDefEqProofs (disch := first | omega | assumption | (simp only [Option.isSome_some, Qt0]; done) | (simp only [UInt64.reduceToNat, UInt32.reduceToNat, UInt8.reduceToNat, List.length_cons, List.length_nil, List.length_append, Int.toNat_natCast] <;> omega)) only [Nat.reduceLT, Nat.reduceLeDiff, Nat.reduceEqDiff, ↓reduceIte, Int.reduceLT, Int.reduceLE, Int.reduceToNat, Int.reduceEq, Int.reduceNe, Nat.reduceAdd, UInt8.reduceOfNat, UInt16.reduceOfNat, UInt32.reduceOfNat, UInt64.reduceOfNat, UInt64.reduceToNat, UInt32.reduceToNat, UInt16.reduceToNat, UInt8.reduceToNat, Int.reduceAdd, Int.reduceSub, Int.reduceMul, Nat.reduceMul, Qp0, Ql0, Qe0, g0, g4, g6, g5, g3]
      refine Does_app el_intf (how2.more ((PH.Le.refl _).new _ _ hgb)).own (Rs.blk (k := ⟨ibs [C % 2 == 1], 1⟩) (by rw [PH.new_m, if_pos rfl]) rfl) (ibs_one _) (by unfold maxLen; omega) (by omega) (fun v' h3' ho hst => ?_)
      have hou := (how2.more ((PH.Le.refl _).new _ _ hgb)).stays hst ho
      rw [← ibs_append, List.append_assoc, show 8 * k + (8 - (m + 1)) + 1 = 8 * k + (8 - m) by omega] at hou
      have e8 : ((8 - (m + 1) : Nat) : Int) + 1 = ((8 - m : Nat) : Int) := by omega
      simp -dsimp -implicitDefEqProofs (disch := first | omega | assumption | (simp only [Option.isSome_some, Qt0]; done) | (simp only [UInt64.reduceToNat, UInt32.reduceToNat, UInt8.reduceToNat, List.length_cons, List.length_nil, List.length_append, Int.toNat_natCast] <;> omega)) only [Nat.reduceLT, Nat.reduceLeDiff, Nat.reduceEqDiff, ↓reduceIte, Int.reduceLT, Int.reduceLE, Int.reduceToNat, Int.reduceEq, Int.reduceNe, Nat.reduceAdd, UInt8.reduceOfNat, UInt16.reduceOfNat, UInt32.reduceOfNat, UInt64.reduceOfNat, UInt64.reduceToNat, UInt32.reduceToNat, UInt16.reduceToNat, UInt8.reduceToNat, Int.reduceAdd, Int.reduceSub, Int.reduceMul, Nat.reduceMul, Qp0, Ql0, Qe0, g0, g4, g6, g5, g3]
      exact ⟨m, h3', by omega, PH.Le.refl _, C / 2, pre ++ [C % 2 == 1], v', by omega, by omega, by simp [g0], by simp [g4], by simp <;> omega, by simp, by simp, by rw [List.append_assoc]; exact hpre, hou⟩
  obtain rfl : k = l.length := by omega
  obtain rfl : n = 0 := by omega
  have hI : decide ((l.length : Int) < (l.length : Int)) = false := decide_eq_false (by omega)
  rw [List.take_length] at how
  clear hb hX hlt hk
  have hml := Fm.msg_length l
  have hlast := Fm.last_get l
  generalize Fm.msg l = M at *
  simp -dsimp -implicitDefEqProofs (disch := first | omega | assumption | (simp only [Option.isSome_some, Qt0]; done) | (simp only [UInt64.reduceToNat, UInt32.reduceToNat, UInt8.reduceToNat, List.length_cons, List.length_nil, List.length_append, Int.toNat_natCast] <;> omega)) only [Nat.reduceLT, Nat.reduceLeDiff, Nat.reduceEqDiff, ↓reduceIte, Int.reduceLT, Int.reduceLE, Int.reduceToNat, Int.reduceEq, Int.reduceNe, Nat.reduceAdd, UInt8.reduceOfNat, UInt16.reduceOfNat, UInt32.reduceOfNat, UInt64.reduceOfNat, UInt64.reduceToNat, UInt32.reduceToNat, UInt16.reduceToNat, UInt8.reduceToNat, Int.reduceAdd, Int.reduceSub, Int.reduceMul, Nat.reduceMul, Qp0, Ql0, Qe0, f0, f4, f3, hI]
  clear f0 f4
  refine PW_loop (fun n f h2 => ∃ (v : Value), n ≤ 32 ∧ f 7 = some (.int .i64 (32 - n : Nat)) ∧ f 3 = some v ∧ OwnS h h2 1 v (8 * l.length + (32 - n)) (ibs (M ++ List.replicate (32 - n) false))) (by kernel_rfl) 32 ⟨v, by omega, ?_, ?_, by simpa using how⟩ ?_
  · simp -dsimp -implicitDefEqProofs (disch := first | omega | assumption | (simp only [Option.isSome_some, Qt0]; done) | (simp only [UInt64.reduceToNat, UInt32.reduceToNat, UInt8.reduceToNat, List.length_cons, List.length_nil, List.length_append, Int.toNat_natCast] <;> omega)) only [Nat.reduceLT, Nat.reduceLeDiff, Nat.reduceEqDiff, ↓reduceIte, Int.reduceLT, Int.reduceLE, Int.reduceToNat, Int.reduceEq, Int.reduceNe, Nat.reduceAdd, UInt8.reduceOfNat, UInt16.reduceOfNat, UInt32.reduceOfNat, UInt64.reduceOfNat, UInt64.reduceToNat, UInt32.reduceToNat, UInt16.reduceToNat, UInt8.reduceToNat, Int.reduceAdd, Int.reduceSub, Int.reduceMul, Nat.reduceMul, Qp0, Ql0, Qe0]
    try rfl
  · simp -dsimp -implicitDefEqProofs (disch := first | omega | assumption | (simp only [Option.isSome_some, Qt0]; done) | (simp only [UInt64.reduceToNat, UInt32.reduceToNat, UInt8.reduceToNat, List.length_cons, List.length_nil, List.length_append, Int.toNat_natCast] <;> omega)) only [Nat.reduceLT, Nat.reduceLeDiff, Nat.reduceEqDiff, ↓reduceIte, Int.reduceLT, Int.reduceLE, Int.reduceToNat, Int.reduceEq, Int.reduceNe, Nat.reduceAdd, UInt8.reduceOfNat, UInt16.reduceOfNat, UInt32.reduceOfNat, UInt64.reduceOfNat, UInt64.reduceToNat, UInt32.reduceToNat, UInt16.reduceToNat, UInt8.reduceToNat, Int.reduceAdd, Int.reduceSub, Int.reduceMul, Nat.reduceMul, Qp0, Ql0, Qe0, f3]
  clear f3 how
  rintro n f h3 ⟨v2, hn, f7, f3, how⟩
  rcases n with _ | m
  rotate_left
  · have hI2 : decide (((32 - (m + 1) : Nat) : Int) < 32) = true := decide_eq_true (by omega)
    have e0 : Value.int .i64 0 = ib false := rfl
    simp -dsimp -implicitDefEqProofs (disch := first | omega | assumption | (simp only [Option.isSome_some, Qt0]; done) | (simp only [UInt64.reduceToNat, UInt32.reduceToNat, UInt8.reduceToNat, List.length_cons, List.length_nil, List.length_append, Int.toNat_natCast] <;> omega)) only [Nat.reduceLT, Nat.reduceLeDiff, Nat.reduceEqDiff, ↓reduceIte, Int.reduceLT, Int.reduceLE, Int.reduceToNat, Int.reduceEq, Int.reduceNe, Nat.reduceAdd, UInt8.reduceOfNat, UInt16.reduceOfNat, UInt32.reduceOfNat, UInt64.reduceOfNat, UInt64.reduceToNat, UInt32.reduceToNat, UInt16.reduceToNat, UInt8.reduceToNat, Int.reduceAdd, Int.reduceSub, Int.reduceMul, Nat.reduceMul, Qp0, Ql0, Qe0, f7, f3, hI2]
    rw [e0]
    refine Does_one (v := ib _) el_intf rfl (by omega) (fun gb hgb => ?_)
    rw [show (ib false).cells.toList = ibs [false] from rfl]
    simp -dsimp -implicitDefEqProofs (disch := first | omega | assumption | (simp only [Option.isSome_some, Qt0]; done) | (simp only [UInt64.reduceToNat, UInt32.reduceToNat, UInt8.reduceToNat, List.length_cons, List.length_nil, List.length_append, Int.toNat_natCast] <;> omega)) only [Nat.reduceLT, Nat.reduceLeDiff, Nat.reduceEqDiff, ↓reduceIte, Int.reduceLT, Int.reduceLE, Int.reduceToNat, Int.reduceEq, Int.reduceNe, Nat.reduceAdd, UInt8.reduceOfNat, UInt16.reduceOfNat, UInt32.reduceOfNat, UInt64.reduceOfNat, UInt64.reduceToNat, UInt32.reduceToNat, UInt16.reduceToNat, UInt8.reduceToNat, Int.reduceAdd, Int.reduceSub, Int.reduceMul, Nat.reduceMul, Qp0, Ql0, Qe0, f7, f3]
    refine Does_app el_intf (how.more ((PH.Le.refl _).new _ _ hgb)).own (Rs.blk (k := ⟨ibs [false], 1⟩) (by rw [PH.new_m, if_pos rfl]) rfl) (ibs_one _) (by unfold maxLen; omega) (by omega) (fun v' h3' ho hst => ?_)
    have hou := (how.more ((PH.Le.refl _).new _ _ hgb)).stays hst ho
    have er : List.replicate (32 - (m + 1)) false ++ [false] = List.replicate (32 - m) false := by rw [← List.replicate_succ', show 32 - (m + 1) + 1 = 32 - m by omega]
    rw [← ibs_append, List.append_assoc, er, show 8 * l.length + (32 - (m + 1)) + 1 = 8 * l.length + (32 - m) by omega] at hou
    have e8 : ((32 - (m + 1) : Nat) : Int) + 1 = ((32 - m : Nat) : Int) := by omega
    simp -dsimp -implicitDefEqProofs (disch := first | omega | assumption | (simp only [Option.isSome_some, Qt0]; done) | (simp only [UInt64.reduceToNat, UInt32.reduceToNat, UInt8.reduceToNat, List.length_cons, List.length_nil, List.length_append, Int.toNat_natCast] <;> omega)) only [Nat.reduceLT, Nat.reduceLeDiff, Nat.reduceEqDiff, ↓reduceIte, Int.reduceLT, Int.reduceLE, Int.reduceToNat, Int.reduceEq, Int.reduceNe, Nat.reduceAdd, UInt8.reduceOfNat, UInt16.reduceOfNat, UInt32.reduceOfNat, UInt64.reduceOfNat, UInt64.reduceToNat, UInt32.reduceToNat, UInt16.reduceToNat, UInt8.reduceToNat, Int.reduceAdd, Int.reduceSub, Int.reduceMul, Nat.reduceMul, Qp0, Ql0, Qe0, f7, f3]
    exact ⟨m, h3', by omega, PH.Le.refl _, v', by omega, by simp <;> omega, by simp, hou⟩
  have hI2 : decide (((32 - 0 : Nat) : Int) < 32) = false := rfl
  rw [Nat.sub_zero] at how
  have hL : (M ++ List.replicate 32 false).length = 8 * l.length + 32 := by rw [List.length_append, hml, List.length_replicate]
  generalize M ++ List.replicate 32 false = L at *
  obtain ⟨bb, cc, rfl, hcc, hbb⟩ := how.own.pos (by omega)
  have hnew := how.new bb rfl
  have hle3 := how.le
  rw [Nat.mul_one] at hbb
  clear how
  generalize hN : 8 * l.length = N at *
  simp -dsimp -implicitDefEqProofs (disch := first | omega | assumption | (simp only [Option.isSome_some, Qt0]; done) | (simp only [UInt64.reduceToNat, UInt32.reduceToNat, UInt8.reduceToNat, List.length_cons, List.length_nil, List.length_append, Int.toNat_natCast] <;> omega)) only [Nat.reduceLT, Nat.reduceLeDiff, Nat.reduceEqDiff, ↓reduceIte, Int.reduceLT, Int.reduceLE, Int.reduceToNat, Int.reduceEq, Int.reduceNe, Nat.reduceAdd, UInt8.reduceOfNat, UInt16.reduceOfNat, UInt32.reduceOfNat, UInt64.reduceOfNat, UInt64.reduceToNat, UInt32.reduceToNat, UInt16.reduceToNat, UInt8.reduceToNat, Int.reduceAdd, Int.reduceSub, Int.reduceMul, Nat.reduceMul, Qp0, Ql0, Qe0, f7, f3, hI2]
  clear f7
  refine PW_loop (fun n f h2 => n ≤ 32 ∧ f 8 = some (.int .i64 (32 - n : Nat)) ∧ f 3 = some (.slice (some ⟨bb, 0, none⟩) (N + 32) cc) ∧ h2 = h3.new bb ⟨ibs (Fm.firsts L (32 - n)), cc⟩) (by kernel_rfl) 32 ⟨by omega, ?_, ?_, by rw [show Fm.firsts L (32 - 32) = L from rfl, PH.new_same hbb]⟩ ?_
  · simp -dsimp -implicitDefEqProofs (disch := first | omega | assumption | (simp only [Option.isSome_some, Qt0]; done) | (simp only [UInt64.reduceToNat, UInt32.reduceToNat, UInt8.reduceToNat, List.length_cons, List.length_nil, List.length_append, Int.toNat_natCast] <;> omega)) only [Nat.reduceLT, Nat.reduceLeDiff, Nat.reduceEqDiff, ↓reduceIte, Int.reduceLT, Int.reduceLE, Int.reduceToNat, Int.reduceEq, Int.reduceNe, Nat.reduceAdd, UInt8.reduceOfNat, UInt16.reduceOfNat, UInt32.reduceOfNat, UInt64.reduceOfNat, UInt64.reduceToNat, UInt32.reduceToNat, UInt16.reduceToNat, UInt8.reduceToNat, Int.reduceAdd, Int.reduceSub, Int.reduceMul, Nat.reduceMul, Qp0, Ql0, Qe0]
    try rfl
  · simp -dsimp -implicitDefEqProofs (disch := first | omega | assumption | (simp only [Option.isSome_some, Qt0]; done) | (simp only [UInt64.reduceToNat, UInt32.reduceToNat, UInt8.reduceToNat, List.length_cons, List.length_nil, List.length_append, Int.toNat_natCast] <;> omega)) only [Nat.reduceLT, Nat.reduceLeDiff, Nat.reduceEqDiff, ↓reduceIte, Int.reduceLT, Int.reduceLE, Int.reduceToNat, Int.reduceEq, Int.reduceNe, Nat.reduceAdd, UInt8.reduceOfNat, UInt16.reduceOfNat, UInt32.reduceOfNat, UInt64.reduceOfNat, UInt64.reduceToNat, UInt32.reduceToNat, UInt16.reduceToNat, UInt8.reduceToNat, Int.reduceAdd, Int.reduceSub, Int.reduceMul, Nat.reduceMul, Qp0, Ql0, Qe0, f3]
  clear f3
  rintro n f h4 ⟨hn, f8, f3, rfl⟩
  rcases n with _ | m
  rotate_left
  · have hI3 : decide (((32 - (m + 1) : Nat) : Int) < 32) = true := decide_eq_true (by omega)
    have e8 : ((32 - (m + 1) : Nat) : Int) + 1 = ((32 - m : Nat) : Int) := by omega
    have hfs := Fm.firsts_succ L (32 - (m + 1))
    rw [show 32 - (m + 1) + 1 = 32 - m by omega] at hfs
    have hfl := Fm.firsts_length L (32 - (m + 1))
    have hq : 32 - (m + 1) < N + 32 := by omega
    generalize 32 - (m + 1) = q at *
    generalize Fm.firsts L q = D at *
    have hmD : (h3.new bb ⟨ibs D, cc⟩).m bb = some ⟨ibs D, cc⟩ := by rw [PH.new_m, if_pos rfl]
    have hlD := ibs_length D
    cases hx : D.getD q false
    · have hrd := rd0 (w0 := w0) hmD (by omega) hx
      have hst := set0 hx
      simp -dsimp -implicitDefEqProofs (disch := first | omega | assumption | (simp only [Option.isSome_some, Qt0]; done) | (simp only [UInt64.reduceToNat, UInt32.reduceToNat, UInt8.reduceToNat, List.length_cons, List.length_nil, List.length_append, Int.toNat_natCast] <;> omega)) only [Nat.reduceLT, Nat.reduceLeDiff, Nat.reduceEqDiff, ↓reduceIte, Int.reduceLT, Int.reduceLE, Int.reduceToNat, Int.reduceEq, Int.reduceNe, Nat.reduceAdd, UInt8.reduceOfNat, UInt16.reduceOfNat, UInt32.reduceOfNat, UInt64.reduceOfNat, UInt64.reduceToNat, UInt32.reduceToNat, UInt16.reduceToNat, UInt8.reduceToNat, Int.reduceAdd, Int.reduceSub, Int.reduceMul, Nat.reduceMul, Qp0, Ql0, Qe0, f8, f3, hI3, hrd, hmD, hlD, hst]
      exact ⟨m, _, by omega, PH.Le.refl _, by omega, by simp <;> omega, by simp [f3], by rw [hfs, PH.new_new] <;> rw [hst]⟩
    · have hrd := rd1 (w0 := w0) hmD (by omega) hx
      have hst := set1 hx
      simp -dsimp -implicitDefEqProofs (disch := first | omega | assumption | (simp only [Option.isSome_some, Qt0]; done) | (simp only [UInt64.reduceToNat, UInt32.reduceToNat, UInt8.reduceToNat, List.length_cons, List.length_nil, List.length_append, Int.toNat_natCast] <;> omega)) only [Nat.reduceLT, Nat.reduceLeDiff, Nat.reduceEqDiff, ↓reduceIte, Int.reduceLT, Int.reduceLE, Int.reduceToNat, Int.reduceEq, Int.reduceNe, Nat.reduceAdd, UInt8.reduceOfNat, UInt16.reduceOfNat, UInt32.reduceOfNat, UInt64.reduceOfNat, UInt64.reduceToNat, UInt32.reduceToNat, UInt16.reduceToNat, UInt8.reduceToNat, Int.reduceAdd, Int.reduceSub, Int.reduceMul, Nat.reduceMul, Qp0, Ql0, Qe0, f8, f3, hI3, hrd, hmD, hlD, hst]
      exact ⟨m, _, by omega, PH.Le.refl _, by omega, by simp <;> omega, by simp [f3], by rw [hfs, PH.new_new] <;> rw [hst]⟩
  have hFl := Fm.firsts_length L 32
  rw [Nat.sub_zero] at *
  generalize Fm.firsts L 32 = F at *
  simp -dsimp -implicitDefEqProofs (disch := first | omega | assumption | (simp only [Option.isSome_some, Qt0]; done) | (simp only [UInt64.reduceToNat, UInt32.reduceToNat, UInt8.reduceToNat, List.length_cons, List.length_nil, List.length_append, Int.toNat_natCast] <;> omega)) only [Nat.reduceLT, Nat.reduceLeDiff, Nat.reduceEqDiff, ↓reduceIte, Int.reduceLT, Int.reduceLE, Int.reduceToNat, Int.reduceEq, Int.reduceNe, Nat.reduceAdd, UInt8.reduceOfNat, UInt16.reduceOfNat, UInt32.reduceOfNat, UInt64.reduceOfNat, UInt64.reduceToNat, UInt32.reduceToNat, UInt16.reduceToNat, UInt8.reduceToNat, Int.reduceAdd, Int.reduceSub, Int.reduceMul, Nat.reduceMul, Qp0, Ql0, Qe0, f8, f3]
  clear f8
  have hp17 : pws.length = 17 := rfl
  refine Does_seq el_intf pws rfl (fun v hv => by simp [pws] at hv; rcases hv with rfl|rfl|rfl|rfl|rfl|rfl|rfl|rfl|rfl|rfl|rfl|rfl|rfl|rfl|rfl|rfl|rfl <;> exact ⟨rfl, rfl⟩) (by omega) (by omega) fun pb hpb => ?_
  have hbF : (h3.new bb ⟨ibs F, cc⟩).m bb = some ⟨ibs F, cc⟩ := by rw [PH.new_m, if_pos rfl]
  have hlt3 := (h3.new bb ⟨ibs F, cc⟩).lt _ _ hbF
  have hbp : bb ≠ pb := by omega
  have hb4 : ((h3.new bb ⟨ibs F, cc⟩).new pb ⟨pws, 17⟩).m bb = some ⟨ibs F, cc⟩ := by rw [PH.new_m, if_neg hbp]; exact hbF
  have hp4 : ((h3.new bb ⟨ibs F, cc⟩).new pb ⟨pws, 17⟩).m pb = some ⟨pws, 17⟩ := by rw [PH.new_m, if_pos rfl]
  have hle4 : PH.Le h ((h3.new bb ⟨ibs F, cc⟩).new pb ⟨pws, 17⟩) := (hle3.new _ _ hnew).new _ _ (Nat.le_trans (hle3.new bb ⟨ibs F, cc⟩ hnew).top hpb)
  generalize (h3.new bb ⟨ibs F, cc⟩).new pb ⟨pws, 17⟩ = h4 at *
  simp -dsimp -implicitDefEqProofs (disch := first | omega | assumption | (simp only [Option.isSome_some, Qt0]; done) | (simp only [UInt64.reduceToNat, UInt32.reduceToNat, UInt8.reduceToNat, List.length_cons, List.length_nil, List.length_append, Int.toNat_natCast] <;> omega)) only [Nat.reduceLT, Nat.reduceLeDiff, Nat.reduceEqDiff, ↓reduceIte, Int.reduceLT, Int.reduceLE, Int.reduceToNat, Int.reduceEq, Int.reduceNe, Nat.reduceAdd, UInt8.reduceOfNat, UInt16.reduceOfNat, UInt32.reduceOfNat, UInt64.reduceOfNat, UInt64.reduceToNat, UInt32.reduceToNat, UInt16.reduceToNat, UInt8.reduceToNat, Int.reduceAdd, Int.reduceSub, Int.reduceMul, Nat.reduceMul, Qp0, Ql0, Qe0, f3]
  refine PW_loop (fun n f h2 => ∃ i, i + n = N ∧ f 10 = some (.int .i64 i) ∧ f 9 = some (.slice (some ⟨pb, 0, none⟩) 17 17) ∧ f 3 = some (.slice (some ⟨bb, 0, none⟩) (N + 32) cc) ∧ h2 = h4.new bb ⟨ibs (Fm.divs F i), cc⟩) (by kernel_rfl) N ⟨0, by omega, ?_, ?_, ?_, by rw [show Fm.divs F 0 = F from rfl, PH.new_same hb4]⟩ ?_
  · simp -dsimp -implicitDefEqProofs (disch := first | omega | assumption | (simp only [Option.isSome_some, Qt0]; done) | (simp only [UInt64.reduceToNat, UInt32.reduceToNat, UInt8.reduceToNat, List.length_cons, List.length_nil, List.length_append, Int.toNat_natCast] <;> omega)) only [Nat.reduceLT, Nat.reduceLeDiff, Nat.reduceEqDiff, ↓reduceIte, Int.reduceLT, Int.reduceLE, Int.reduceToNat, Int.reduceEq, Int.reduceNe, Nat.reduceAdd, UInt8.reduceOfNat, UInt16.reduceOfNat, UInt32.reduceOfNat, UInt64.reduceOfNat, UInt64.reduceToNat, UInt32.reduceToNat, UInt16.reduceToNat, UInt8.reduceToNat, Int.reduceAdd, Int.reduceSub, Int.reduceMul, Nat.reduceMul, Qp0, Ql0, Qe0]
    try rfl
  · simp -dsimp -implicitDefEqProofs (disch := first | omega | assumption | (simp only [Option.isSome_some, Qt0]; done) | (simp only [UInt64.reduceToNat, UInt32.reduceToNat, UInt8.reduceToNat, List.length_cons, List.length_nil, List.length_append, Int.toNat_natCast] <;> omega)) only [Nat.reduceLT, Nat.reduceLeDiff, Nat.reduceEqDiff, ↓reduceIte, Int.reduceLT, Int.reduceLE, Int.reduceToNat, Int.reduceEq, Int.reduceNe, Nat.reduceAdd, UInt8.reduceOfNat, UInt16.reduceOfNat, UInt32.reduceOfNat, UInt64.reduceOfNat, UInt64.reduceToNat, UInt32.reduceToNat, UInt16.reduceToNat, UInt8.reduceToNat, Int.reduceAdd, Int.reduceSub, Int.reduceMul, Nat.reduceMul, Qp0, Ql0, Qe0]
  · simp -dsimp -implicitDefEqProofs (disch := first | omega | assumption | (simp only [Option.isSome_some, Qt0]; done) | (simp only [UInt64.reduceToNat, UInt32.reduceToNat, UInt8.reduceToNat, List.length_cons, List.length_nil, List.length_append, Int.toNat_natCast] <;> omega)) only [Nat.reduceLT, Nat.reduceLeDiff, Nat.reduceEqDiff, ↓reduceIte, Int.reduceLT, Int.reduceLE, Int.reduceToNat, Int.reduceEq, Int.reduceNe, Nat.reduceAdd, UInt8.reduceOfNat, UInt16.reduceOfNat, UInt32.reduceOfNat, UInt64.reduceOfNat, UInt64.reduceToNat, UInt32.reduceToNat, UInt16.reduceToNat, UInt8.reduceToNat, Int.reduceAdd, Int.reduceSub, Int.reduceMul, Nat.reduceMul, Qp0, Ql0, Qe0, f3]
  clear f3
  rintro n f h5 ⟨i, hi, f10, f9, f3, rfl⟩
  have hDl := Fm.divs_length F i
  have hmD : (h4.new bb ⟨ibs (Fm.divs F i), cc⟩).m bb = some ⟨ibs (Fm.divs F i), cc⟩ := by rw [PH.new_m, if_pos rfl]
  have hlD := ibs_length (Fm.divs F i)
  by_cases hlt : i < N
  · have hI4 : decide ((i : Int) + 32 < ((N + 32 : Nat) : Int)) = true := decide_eq_true (by omega)
    have hds : Fm.divs F (i + 1) = if (Fm.divs F i).getD i false then Fm.flips i (Fm.divs F i) Fm.pw else Fm.divs F i := rfl
    generalize Fm.divs F i = D at *
    cases hx : D.getD i false
    · have hrd := rd0 (w0 := w0) hmD (by omega) hx
      rw [hx, if_neg (by simp)] at hds
      simp -dsimp -implicitDefEqProofs (disch := first | omega | assumption | (simp only [Option.isSome_some, Qt0]; done) | (simp only [UInt64.reduceToNat, UInt32.reduceToNat, UInt8.reduceToNat, List.length_cons, List.length_nil, List.length_append, Int.toNat_natCast] <;> omega)) only [Nat.reduceLT, Nat.reduceLeDiff, Nat.reduceEqDiff, ↓reduceIte, Int.reduceLT, Int.reduceLE, Int.reduceToNat, Int.reduceEq, Int.reduceNe, Nat.reduceAdd, UInt8.reduceOfNat, UInt16.reduceOfNat, UInt32.reduceOfNat, UInt64.reduceOfNat, UInt64.reduceToNat, UInt32.reduceToNat, UInt16.reduceToNat, UInt8.reduceToNat, Int.reduceAdd, Int.reduceSub, Int.reduceMul, Nat.reduceMul, Qp0, Ql0, Qe0, f10, f9, f3, hI4, hrd]
      exact ⟨n - 1, _, by omega, PH.Le.refl _, i + 1, by omega, by simp, by simp [f9], by simp [f3], by rw [hds]⟩
    have hrd := rd1 (w0 := w0) hmD (by omega) hx
    rw [hx, if_pos rfl] at hds
    simp -dsimp -implicitDefEqProofs (disch := first | omega | assumption | (simp only [Option.isSome_some, Qt0]; done) | (simp only [UInt64.reduceToNat, UInt32.reduceToNat, UInt8.reduceToNat, List.length_cons, List.length_nil, List.length_append, Int.toNat_natCast] <;> omega)) only [Nat.reduceLT, Nat.reduceLeDiff, Nat.reduceEqDiff, ↓reduceIte, Int.reduceLT, Int.reduceLE, Int.reduceToNat, Int.reduceEq, Int.reduceNe, Nat.reduceAdd, UInt8.reduceOfNat, UInt16.reduceOfNat, UInt32.reduceOfNat, UInt64.reduceOfNat, UInt64.reduceToNat, UInt32.reduceToNat, UInt16.reduceToNat, UInt8.reduceToNat, Int.reduceAdd, Int.reduceSub, Int.reduceMul, Nat.reduceMul, Qp0, Ql0, Qe0, f10, f9, f3, hI4, hrd]
    clear hrd hI4
    refine PW_loop (fun n f h2 => n ≤ 17 ∧ f 71 = some (.slice (some ⟨pb, 0, none⟩) 17 17) ∧ f 72 = some (.int .i64 17) ∧ f 73 = some (.int .i64 (17 - n : Nat)) ∧ f 10 = some (.int .i64 i) ∧ f 9 = some (.slice (some ⟨pb, 0, none⟩) 17 17) ∧ f 3 = some (.slice (some ⟨bb, 0, none⟩) (N + 32) cc) ∧ h2 = h4.new bb ⟨ibs (Fm.flips i D (Fm.pw.take (17 - n))), cc⟩) (by kernel_rfl) 17 ⟨by omega, ?_, ?_, ?_, ?_, ?_, ?_, rfl⟩ ?_
    · simp -dsimp -implicitDefEqProofs (disch := first | omega | assumption | (simp only [Option.isSome_some, Qt0]; done) | (simp only [UInt64.reduceToNat, UInt32.reduceToNat, UInt8.reduceToNat, List.length_cons, List.length_nil, List.length_append, Int.toNat_natCast] <;> omega)) only [Nat.reduceLT, Nat.reduceLeDiff, Nat.reduceEqDiff, ↓reduceIte, Int.reduceLT, Int.reduceLE, Int.reduceToNat, Int.reduceEq, Int.reduceNe, Nat.reduceAdd, UInt8.reduceOfNat, UInt16.reduceOfNat, UInt32.reduceOfNat, UInt64.reduceOfNat, UInt64.reduceToNat, UInt32.reduceToNat, UInt16.reduceToNat, UInt8.reduceToNat, Int.reduceAdd, Int.reduceSub, Int.reduceMul, Nat.reduceMul, Qp0, Ql0, Qe0, f9]
    · simp -dsimp -implicitDefEqProofs (disch := first | omega | assumption | (simp only [Option.isSome_some, Qt0]; done) | (simp only [UInt64.reduceToNat, UInt32.reduceToNat, UInt8.reduceToNat, List.length_cons, List.length_nil, List.length_append, Int.toNat_natCast] <;> omega)) only [Nat.reduceLT, Nat.reduceLeDiff, Nat.reduceEqDiff, ↓reduceIte, Int.reduceLT, Int.reduceLE, Int.reduceToNat, Int.reduceEq, Int.reduceNe, Nat.reduceAdd, UInt8.reduceOfNat, UInt16.reduceOfNat, UInt32.reduceOfNat, UInt64.reduceOfNat, UInt64.reduceToNat, UInt32.reduceToNat, UInt16.reduceToNat, UInt8.reduceToNat, Int.reduceAdd, Int.reduceSub, Int.reduceMul, Nat.reduceMul, Qp0, Ql0, Qe0]
      try rfl
    · simp -dsimp -implicitDefEqProofs (disch := first | omega | assumption | (simp only [Option.isSome_some, Qt0]; done) | (simp only [UInt64.reduceToNat, UInt32.reduceToNat, UInt8.reduceToNat, List.length_cons, List.length_nil, List.length_append, Int.toNat_natCast] <;> omega)) only [Nat.reduceLT, Nat.reduceLeDiff, Nat.reduceEqDiff, ↓reduceIte, Int.reduceLT, Int.reduceLE, Int.reduceToNat, Int.reduceEq, Int.reduceNe, Nat.reduceAdd, UInt8.reduceOfNat, UInt16.reduceOfNat, UInt32.reduceOfNat, UInt64.reduceOfNat, UInt64.reduceToNat, UInt32.reduceToNat, UInt16.reduceToNat, UInt8.reduceToNat, Int.reduceAdd, Int.reduceSub, Int.reduceMul, Nat.reduceMul, Qp0, Ql0, Qe0]
      try rfl
    · simp -dsimp -implicitDefEqProofs (disch := first | omega | assumption | (simp only [Option.isSome_some, Qt0]; done) | (simp only [UInt64.reduceToNat, UInt32.reduceToNat, UInt8.reduceToNat, List.length_cons, List.length_nil, List.length_append, Int.toNat_natCast] <;> omega)) only [Nat.reduceLT, Nat.reduceLeDiff, Nat.reduceEqDiff, ↓reduceIte, Int.reduceLT, Int.reduceLE, Int.reduceToNat, Int.reduceEq, Int.reduceNe, Nat.reduceAdd, UInt8.reduceOfNat, UInt16.reduceOfNat, UInt32.reduceOfNat, UInt64.reduceOfNat, UInt64.reduceToNat, UInt32.reduceToNat, UInt16.reduceToNat, UInt8.reduceToNat, Int.reduceAdd, Int.reduceSub, Int.reduceMul, Nat.reduceMul, Qp0, Ql0, Qe0, f10]
    · simp -dsimp -implicitDefEqProofs (disch := first | omega | assumption | (simp only [Option.isSome_some, Qt0]; done) | (simp only [UInt64.reduceToNat, UInt32.reduceToNat, UInt8.reduceToNat, List.length_cons, List.length_nil, List.length_append, Int.toNat_natCast] <;> omega)) only [Nat.reduceLT, Nat.reduceLeDiff, Nat.reduceEqDiff, ↓reduceIte, Int.reduceLT, Int.reduceLE, Int.reduceToNat, Int.reduceEq, Int.reduceNe, Nat.reduceAdd, UInt8.reduceOfNat, UInt16.reduceOfNat, UInt32.reduceOfNat, UInt64.reduceOfNat, UInt64.reduceToNat, UInt32.reduceToNat, UInt16.reduceToNat, UInt8.reduceToNat, Int.reduceAdd, Int.reduceSub, Int.reduceMul, Nat.reduceMul, Qp0, Ql0, Qe0, f9]
    · simp -dsimp -implicitDefEqProofs (disch := first | omega | assumption | (simp only [Option.isSome_some, Qt0]; done) | (simp only [UInt64.reduceToNat, UInt32.reduceToNat, UInt8.reduceToNat, List.length_cons, List.length_nil, List.length_append, Int.toNat_natCast] <;> omega)) only [Nat.reduceLT, Nat.reduceLeDiff, Nat.reduceEqDiff, ↓reduceIte, Int.reduceLT, Int.reduceLE, Int.reduceToNat, Int.reduceEq, Int.reduceNe, Nat.reduceAdd, UInt8.reduceOfNat, UInt16.reduceOfNat, UInt32.reduceOfNat, UInt64.reduceOfNat, UInt64.reduceToNat, UInt32.reduceToNat, UInt16.reduceToNat, UInt8.reduceToNat, Int.reduceAdd, Int.reduceSub, Int.reduceMul, Nat.reduceMul, Qp0, Ql0, Qe0, f3]
    clear f10 f9 f3
    rintro n2 f2 h6 ⟨hn2, g71, g72, g73, g10, g9, g3, rfl⟩
    rcases n2 with _ | m
    · have hI5 : decide (((17 - 0 : Nat) : Int) < 17) = false := rfl
      rw [show Fm.pw.take (17 - 0) = Fm.pw from rfl, ← hds]
      simp -dsimp -implicitDefEqProofs (disch := first | omega | assumption | (simp only [Option.isSome_some, Qt0]; done) | (simp only [UInt64.reduceToNat, UInt32.reduceToNat, UInt8.reduceToNat, List.length_cons, List.length_nil, List.length_append, Int.toNat_natCast] <;> omega)) only [Nat.reduceLT, Nat.reduceLeDiff, Nat.reduceEqDiff, ↓reduceIte, Int.reduceLT, Int.reduceLE, Int.reduceToNat, Int.reduceEq, Int.reduceNe, Nat.reduceAdd, UInt8.reduceOfNat, UInt16.reduceOfNat, UInt32.reduceOfNat, UInt64.reduceOfNat, UInt64.reduceToNat, UInt32.reduceToNat, UInt16.reduceToNat, UInt8.reduceToNat, Int.reduceAdd, Int.reduceSub, Int.reduceMul, Nat.reduceMul, Qp0, Ql0, Qe0, g71, g72, g73, g10, g9, g3, hI5]
      exact ⟨n - 1, _, by omega, PH.Le.refl _, i + 1, by omega, by simp, by simp [g9], by simp [g3], rfl⟩
    have hI5 : decide (((17 - (m + 1) : Nat) : Int) < 17) = true := decide_eq_true (by omega)
    obtain ⟨hp1, hp2, hp3⟩ := pws_get (17 - (m + 1)) (by omega)
    have hfl := Fm.flips_length i (Fm.pw.take (17 - (m + 1))) D
    have hfs : Fm.flips i D (Fm.pw.take (17 - m)) = Fm.flip (Fm.flips i D (Fm.pw.take (17 - (m + 1)))) (i + 32 - Fm.pw.getD (17 - (m + 1)) 0) := by
      rw [show 17 - m = 17 - (m + 1) + 1 by omega, hp3]
      unfold Fm.flips
      rw [List.foldl_append]
      rfl
    have hq : 17 - (m + 1) < 17 := by omega
    have hq2 : 17 - (m + 1) + 1 = 17 - m := by omega
    generalize 17 - (m + 1) = q at *
    generalize Fm.flips i D (Fm.pw.take q) = E at *
    generalize Fm.pw.getD q 0 = p at *
    have hmE : (h4.new bb ⟨ibs E, cc⟩).m bb = some ⟨ibs E, cc⟩ := by rw [PH.new_m, if_pos rfl]
    have hpE : (h4.new bb ⟨ibs E, cc⟩).m pb = some ⟨pws, 17⟩ := by rw [PH.new_m, if_neg (fun e => hbp e.symm)]; exact hp4
    have hlE := ibs_length E
    have hrp : rd w0 (h4.new bb ⟨ibs E, cc⟩) ⟨pb, q, none⟩ = some (.int .i64 (p : Int)) := by simp [rd_M, hpE, rdM_some, hp1]
    have hT : ((i : Int) + 32 - (p : Int)).toNat = i + 32 - p := by omega
    cases hy : E.getD (i + 32 - p) false
    · have hrd := rd0 (w0 := w0) hmE (by omega) hy
      have hst := set0 hy
      simp -dsimp -implicitDefEqProofs (disch := first | omega | assumption | (simp only [Option.isSome_some, Qt0]; done) | (simp only [UInt64.reduceToNat, UInt32.reduceToNat, UInt8.reduceToNat, List.length_cons, List.length_nil, List.length_append, Int.toNat_natCast] <;> omega)) only [Nat.reduceLT, Nat.reduceLeDiff, Nat.reduceEqDiff, ↓reduceIte, Int.reduceLT, Int.reduceLE, Int.reduceToNat, Int.reduceEq, Int.reduceNe, Nat.reduceAdd, UInt8.reduceOfNat, UInt16.reduceOfNat, UInt32.reduceOfNat, UInt64.reduceOfNat, UInt64.reduceToNat, UInt32.reduceToNat, UInt16.reduceToNat, UInt8.reduceToNat, Int.reduceAdd, Int.reduceSub, Int.reduceMul, Nat.reduceMul, Qp0, Ql0, Qe0, g71, g72, g73, g10, g9, g3, hI5, hrp, hT, hrd, hmE, hlE, hst]
      exact ⟨m, _, by omega, PH.Le.refl _, by omega, by simp [g71], by simp [g72], by simp <;> omega, by simp [g10], by simp [g9], by simp [g3], by rw [hfs, PH.new_new]⟩
    · have hrd := rd1 (w0 := w0) hmE (by omega) hy
      have hst := set1 hy
      simp -dsimp -implicitDefEqProofs (disch := first | omega | assumption | (simp only [Option.isSome_some, Qt0]; done) | (simp only [UInt64.reduceToNat, UInt32.reduceToNat, UInt8.reduceToNat, List.length_cons, List.length_nil, List.length_append, Int.toNat_natCast] <;> omega)) only [Nat.reduceLT, Nat.reduceLeDiff, Nat.reduceEqDiff, ↓reduceIte, Int.reduceLT, Int.reduceLE, Int.reduceToNat, Int.reduceEq, Int.reduceNe, Nat.reduceAdd, UInt8.reduceOfNat, UInt16.reduceOfNat, UInt32.reduceOfNat, UInt64.reduceOfNat, UInt64.reduceToNat, UInt32.reduceToNat, UInt16.reduceToNat, UInt8.reduceToNat, Int.reduceAdd, Int.reduceSub, Int.reduceMul, Nat.reduceMul, Qp0, Ql0, Qe0, g71, g72, g73, g10, g9, g3, hI5, hrp, hT, hrd, hmE, hlE, hst]
      exact ⟨m, _, by omega, PH.Le.refl _, by omega, by simp [g71], by simp [g72], by simp <;> omega, by simp [g10], by simp [g9], by simp [g3], by rw [hfs, PH.new_new]⟩
  obtain rfl : i = N := by omega
  have hI4 : decide ((i : Int) + 32 < ((i + 32 : Nat) : Int)) = false := decide_eq_false (by omega)
  have hle5 : PH.Le h (h4.new bb ⟨ibs (Fm.divs F i), cc⟩) := hle4.new _ _ hnew
  generalize Fm.divs F i = D at *
  generalize h4.new bb ⟨ibs D, cc⟩ = h5 at *
  simp -dsimp -implicitDefEqProofs (disch := first | omega | assumption | (simp only [Option.isSome_some, Qt0]; done) | (simp only [UInt64.reduceToNat, UInt32.reduceToNat, UInt8.reduceToNat, List.length_cons, List.length_nil, List.length_append, Int.toNat_natCast] <;> omega)) only [Nat.reduceLT, Nat.reduceLeDiff, Nat.reduceEqDiff, ↓reduceIte, Int.reduceLT, Int.reduceLE, Int.reduceToNat, Int.reduceEq, Int.reduceNe, Nat.reduceAdd, UInt8.reduceOfNat, UInt16.reduceOfNat, UInt32.reduceOfNat, UInt64.reduceOfNat, UInt64.reduceToNat, UInt32.reduceToNat, UInt16.reduceToNat, UInt8.reduceToNat, Int.reduceAdd, Int.reduceSub, Int.reduceMul, Nat.reduceMul, Qp0, Ql0, Qe0, f10, f9, f3, hI4]
  clear f10 f9 hI4
  generalize Fm.sum l = S at *
  have hl0 : Fm.low S (32 - 32) = 0 := Fm.low_zero S
  refine PW_loop (fun n f h2 => n ≤ 32 ∧ f 13 = some (u32 (Fm.low S (32 - n))) ∧ f 14 = some (u32 (Fm.wei (32 - n))) ∧ f 15 = some (.int .i64 (i + (32 - n) : Nat)) ∧ f 3 = some (.slice (some ⟨bb, 0, none⟩) (i + 32) cc) ∧ h2 = h5) (by kernel_rfl) 32 ⟨by omega, ?_, ?_, ?_, ?_, rfl⟩ ?_
  · rw [hl0]
    simp -dsimp -implicitDefEqProofs (disch := first | omega | assumption | (simp only [Option.isSome_some, Qt0]; done) | (simp only [UInt64.reduceToNat, UInt32.reduceToNat, UInt8.reduceToNat, List.length_cons, List.length_nil, List.length_append, Int.toNat_natCast] <;> omega)) only [Nat.reduceLT, Nat.reduceLeDiff, Nat.reduceEqDiff, ↓reduceIte, Int.reduceLT, Int.reduceLE, Int.reduceToNat, Int.reduceEq, Int.reduceNe, Nat.reduceAdd, UInt8.reduceOfNat, UInt16.reduceOfNat, UInt32.reduceOfNat, UInt64.reduceOfNat, UInt64.reduceToNat, UInt32.reduceToNat, UInt16.reduceToNat, UInt8.reduceToNat, Int.reduceAdd, Int.reduceSub, Int.reduceMul, Nat.reduceMul, Qp0, Ql0, Qe0]
    try rfl
  · simp -dsimp -implicitDefEqProofs (disch := first | omega | assumption | (simp only [Option.isSome_some, Qt0]; done) | (simp only [UInt64.reduceToNat, UInt32.reduceToNat, UInt8.reduceToNat, List.length_cons, List.length_nil, List.length_append, Int.toNat_natCast] <;> omega)) only [Nat.reduceLT, Nat.reduceLeDiff, Nat.reduceEqDiff, ↓reduceIte, Int.reduceLT, Int.reduceLE, Int.reduceToNat, Int.reduceEq, Int.reduceNe, Nat.reduceAdd, UInt8.reduceOfNat, UInt16.reduceOfNat, UInt32.reduceOfNat, UInt64.reduceOfNat, UInt64.reduceToNat, UInt32.reduceToNat, UInt16.reduceToNat, UInt8.reduceToNat, Int.reduceAdd, Int.reduceSub, Int.reduceMul, Nat.reduceMul, Qp0, Ql0, Qe0]
    try rfl
  · simp -dsimp -implicitDefEqProofs (disch := first | omega | assumption | (simp only [Option.isSome_some, Qt0]; done) | (simp only [UInt64.reduceToNat, UInt32.reduceToNat, UInt8.reduceToNat, List.length_cons, List.length_nil, List.length_append, Int.toNat_natCast] <;> omega)) only [Nat.reduceLT, Nat.reduceLeDiff, Nat.reduceEqDiff, ↓reduceIte, Int.reduceLT, Int.reduceLE, Int.reduceToNat, Int.reduceEq, Int.reduceNe, Nat.reduceAdd, UInt8.reduceOfNat, UInt16.reduceOfNat, UInt32.reduceOfNat, UInt64.reduceOfNat, UInt64.reduceToNat, UInt32.reduceToNat, UInt16.reduceToNat, UInt8.reduceToNat, Int.reduceAdd, Int.reduceSub, Int.reduceMul, Nat.reduceMul, Qp0, Ql0, Qe0]
    simp <;> omega
  · simp -dsimp -implicitDefEqProofs (disch := first | omega | assumption | (simp only [Option.isSome_some, Qt0]; done) | (simp only [UInt64.reduceToNat, UInt32.reduceToNat, UInt8.reduceToNat, List.length_cons, List.length_nil, List.length_append, Int.toNat_natCast] <;> omega)) only [Nat.reduceLT, Nat.reduceLeDiff, Nat.reduceEqDiff, ↓reduceIte, Int.reduceLT, Int.reduceLE, Int.reduceToNat, Int.reduceEq, Int.reduceNe, Nat.reduceAdd, UInt8.reduceOfNat, UInt16.reduceOfNat, UInt32.reduceOfNat, UInt64.reduceOfNat, UInt64.reduceToNat, UInt32.reduceToNat, UInt16.reduceToNat, UInt8.reduceToNat, Int.reduceAdd, Int.reduceSub, Int.reduceMul, Nat.reduceMul, Qp0, Ql0, Qe0, f3]
  clear f3
  rintro n f h6 ⟨hn, f13, f14, f15, f3, rfl⟩
  rcases n with _ | m
  · have hI6 : decide (((i + (32 - 0) : Nat) : Int) < ((i + 32 : Nat) : Int)) = false := decide_eq_false (by omega)
    rw [Nat.sub_zero, Fm.low_all] at f13
    simp -dsimp -implicitDefEqProofs (disch := first | omega | assumption | (simp only [Option.isSome_some, Qt0]; done) | (simp only [UInt64.reduceToNat, UInt32.reduceToNat, UInt8.reduceToNat, List.length_cons, List.length_nil, List.length_append, Int.toNat_natCast] <;> omega)) only [Nat.reduceLT, Nat.reduceLeDiff, Nat.reduceEqDiff, ↓reduceIte, Int.reduceLT, Int.reduceLE, Int.reduceToNat, Int.reduceEq, Int.reduceNe, Nat.reduceAdd, UInt8.reduceOfNat, UInt16.reduceOfNat, UInt32.reduceOfNat, UInt64.reduceOfNat, UInt64.reduceToNat, UInt32.reduceToNat, UInt16.reduceToNat, UInt8.reduceToNat, Int.reduceAdd, Int.reduceSub, Int.reduceMul, Nat.reduceMul, Qp0, Ql0, Qe0, f13, f14, f15, f3, hI6]
    exact ⟨_, hle5, by trivial, rfl⟩
  have hI6 : decide (((i + (32 - (m + 1)) : Nat) : Int) < ((i + 32 : Nat) : Int)) = true := decide_eq_true (by omega)
  have hlk := hlast (32 - (m + 1)) (by omega)
  have hls := Fm.low_succ S (32 - (m + 1))
  have hws := Fm.wei_succ (32 - (m + 1))
  have hq : 32 - (m + 1) < 32 := by omega
  have hq2 : 32 - (m + 1) + 1 = 32 - m := by omega
  rw [hq2] at hls hws
  generalize 32 - (m + 1) = q at *
  generalize Fm.low S q = a at *
  generalize Fm.wei q = g at *
  have hT : ((i : Int) + (q : Int)).toNat = i + q := by omega
  cases hy : S.toNat.testBit q
  · rw [hy] at hlk hls
    have hrd := rd1 (w0 := w0) hmD (by omega) hlk
    rw [if_neg (by simp)] at hls
    simp -dsimp -implicitDefEqProofs (disch := first | omega | assumption | (simp only [Option.isSome_some, Qt0]; done) | (simp only [UInt64.reduceToNat, UInt32.reduceToNat, UInt8.reduceToNat, List.length_cons, List.length_nil, List.length_append, Int.toNat_natCast] <;> omega)) only [Nat.reduceLT, Nat.reduceLeDiff, Nat.reduceEqDiff, ↓reduceIte, Int.reduceLT, Int.reduceLE, Int.reduceToNat, Int.reduceEq, Int.reduceNe, Nat.reduceAdd, UInt8.reduceOfNat, UInt16.reduceOfNat, UInt32.reduceOfNat, UInt64.reduceOfNat, UInt64.reduceToNat, UInt32.reduceToNat, UInt16.reduceToNat, UInt8.reduceToNat, Int.reduceAdd, Int.reduceSub, Int.reduceMul, Nat.reduceMul, Qp0, Ql0, Qe0, f13, f14, f15, f3, hI6, hT, hrd]
    exact ⟨m, _, by omega, PH.Le.refl _, by omega, by simp [hls, f13], by simp [hws], by simp <;> omega, by simp [f3], rfl⟩
  · rw [hy] at hlk hls
    have hrd := rd0 (w0 := w0) hmD (by omega) hlk
    rw [if_pos rfl] at hls
    simp -dsimp -implicitDefEqProofs (disch := first | omega | assumption | (simp only [Option.isSome_some, Qt0]; done) | (simp only [UInt64.reduceToNat, UInt32.reduceToNat, UInt8.reduceToNat, List.length_cons, List.length_nil, List.length_append, Int.toNat_natCast] <;> omega)) only [Nat.reduceLT, Nat.reduceLeDiff, Nat.reduceEqDiff, ↓reduceIte, Int.reduceLT, Int.reduceLE, Int.reduceToNat, Int.reduceEq, Int.reduceNe, Nat.reduceAdd, UInt8.reduceOfNat, UInt16.reduceOfNat, UInt32.reduceOfNat, UInt64.reduceOfNat, UInt64.reduceToNat, UInt32.reduceToNat, UInt16.reduceToNat, UInt8.reduceToNat, Int.reduceAdd, Int.reduceSub, Int.reduceMul, Nat.reduceMul, Qp0, Ql0, Qe0, f13, f14, f15, f3, hI6, hT, hrd]
    exact ⟨m, _, by omega, PH.Le.refl _, by omega, by simp [hls], by simp [hws], by simp <;> omega, by simp [f3], rfl⟩
end Go.Proofs.YtpdcbkleolciiaaDoor
