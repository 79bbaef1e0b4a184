/- LeasePlays: whatever is granted, in any order, leases hold and lapse as the document says; none gets shorter. No condition. -/
import Derived.Test.YtadbaohcniggmaaDoorLs3
import Derived.Test.YtadbaohcniggmaaDoorPar
import Derived.Test.YtadbaohcniggmaaDoorBase
import Derived.Test.YtadbaohcniggmaaDoorBase2
import Derived.Test.YtadbaohcniggmaaDoorChecked
import Derived.Test.YtadbaohcniggmaaDoorDoor
namespace Go.Proofs.YtadbaohcniggmaaDoor.LsP
set_option linter.unusedVariables false
set_option linter.unusedSimpArgs false
open Go.ChangeShapes Go.WideShapes Go.ChangeAt Go.RowKit Base Px
set_option maxRecDepth 20000 in
set_option maxHeartbeats 4000000 in
theorem walk_LeasePlays (region : Int) (n : Int) (A_l : Option Addr) (n_l c_l : Nat) (z_l : List Int) (w : World) (hw_region : (Lit.int .i64 region).wf = true) (hw_n : (Lit.int .i64 n).wf = true) (hn_l : n_l ≤ 140737488351232) (hc_l : n_l ≤ c_l) (hr_l : Rd w w.heap.size 4 A_l n_l (z_l.map (Value.int .i64))) (hz_l : ∀ z ∈ z_l, (Lit.int .i64 z).wf = true) (hg : w.cell? ⟨0, 0, none⟩ = some (rtV 26)) : Calls Tryd.prog 3 #[.int .i64 region, .int .i64 n, .slice A_l n_l c_l] w fun e w' => e = .returned (.bool true) ∧ Below w.heap.size w w' := by
  refine law_calls (args := [.int .i64 region, .int .i64 n, .slice A_l n_l c_l]) (Calls_body Tryd.func3 rfl _ Tryd.ntmps3 (by kernel_rfl) (by kernel_rfl) _ Tryd.results3 ?_ w (Sim.empty w))
  simp -dsimp -implicitDefEqProofs (disch := first | omega | assumption | (simp only [Option.isSome_some, Qt0]; done) | (simp only [UInt64.reduceToNat, UInt32.reduceToNat, UInt8.reduceToNat, List.length_cons, List.length_nil, List.length_append, Int.toNat_natCast] <;> omega)) only [Nat.reduceLT, Nat.reduceLeDiff, Nat.reduceEqDiff, ↓reduceIte, Int.reduceLT, Int.reduceLE, Int.reduceToNat, Int.reduceEq, Int.reduceNe, Nat.reduceAdd, UInt8.reduceOfNat, UInt16.reduceOfNat, UInt32.reduceOfNat, UInt64.reduceOfNat, UInt64.reduceToNat, UInt32.reduceToNat, UInt16.reduceToNat, UInt8.reduceToNat, Int.reduceAdd, Int.reduceSub, Int.reduceMul, Nat.reduceMul, Qp0, Ql0, Qe0]
  refine (awake22 w (PH.empty w)).mono ?_
  rintro v h1 ⟨rfl, hl1⟩
  by_cases hrg : rg22 region n
  rotate_left
  · have hN := Lib.hid (lnew_no region n hrg w h1)
    have hR := Lib.hid (fun h => rlnew_no region n hrg w h)
    simp -dsimp -implicitDefEqProofs (disch := first | omega | assumption | (simp only [Option.isSome_some, Qt0]; done) | (simp only [UInt64.reduceToNat, UInt32.reduceToNat, UInt8.reduceToNat, List.length_cons, List.length_nil, List.length_append, Int.toNat_natCast] <;> omega)) only [Nat.reduceLT, Nat.reduceLeDiff, Nat.reduceEqDiff, ↓reduceIte, Int.reduceLT, Int.reduceLE, Int.reduceToNat, Int.reduceEq, Int.reduceNe, Nat.reduceAdd, UInt8.reduceOfNat, UInt16.reduceOfNat, UInt32.reduceOfNat, UInt64.reduceOfNat, UInt64.reduceToNat, UInt32.reduceToNat, UInt16.reduceToNat, UInt8.reduceToNat, Int.reduceAdd, Int.reduceSub, Int.reduceMul, Nat.reduceMul, Qp0, Ql0, Qe0]
    refine hN.out.mono ?_
    rintro v h2 ⟨be, rfl, hbe, rfl⟩
    have hI := is_any 1 w _ _ _ (EV.at (s := leaseT) (a := 0) (show EV _ (.code 1) (codeV 1) from rfl) hbe)
    have hn1 : ((Er.wrap leaseT 0 (.code 1)).num == 1) = true := by simp [Er.num]
    rw [hn1] at hI
    have hI := Lib.hid hI
    have hle := hl1.trans ((PH.Le.refl h1).new be ⟨[str leaseT, .int .i64 0, codeV 1], 3⟩ hbe)
    generalize h1.new be ⟨[str leaseT, .int .i64 0, codeV 1], 3⟩ = h2 at *
    unfold errV codeV at *
    simp -dsimp -implicitDefEqProofs (disch := first | omega | assumption | (simp only [Option.isSome_some, Qt0]; done) | (simp only [UInt64.reduceToNat, UInt32.reduceToNat, UInt8.reduceToNat, List.length_cons, List.length_nil, List.length_append, Int.toNat_natCast] <;> omega)) only [Nat.reduceLT, Nat.reduceLeDiff, Nat.reduceEqDiff, ↓reduceIte, Int.reduceLT, Int.reduceLE, Int.reduceToNat, Int.reduceEq, Int.reduceNe, Nat.reduceAdd, UInt8.reduceOfNat, UInt16.reduceOfNat, UInt32.reduceOfNat, UInt64.reduceOfNat, UInt64.reduceToNat, UInt32.reduceToNat, UInt16.reduceToNat, UInt8.reduceToNat, Int.reduceAdd, Int.reduceSub, Int.reduceMul, Nat.reduceMul, Qp0, Ql0, Qe0]
    refine (hR.out _).mono ?_
    rintro v hz ⟨rfl, hzq⟩
    obtain rfl := hzq.symm
    simp -dsimp -implicitDefEqProofs (disch := first | omega | assumption | (simp only [Option.isSome_some, Qt0]; done) | (simp only [UInt64.reduceToNat, UInt32.reduceToNat, UInt8.reduceToNat, List.length_cons, List.length_nil, List.length_append, Int.toNat_natCast] <;> omega)) only [Nat.reduceLT, Nat.reduceLeDiff, Nat.reduceEqDiff, ↓reduceIte, Int.reduceLT, Int.reduceLE, Int.reduceToNat, Int.reduceEq, Int.reduceNe, Nat.reduceAdd, UInt8.reduceOfNat, UInt16.reduceOfNat, UInt32.reduceOfNat, UInt64.reduceOfNat, UInt64.reduceToNat, UInt32.reduceToNat, UInt16.reduceToNat, UInt8.reduceToNat, Int.reduceAdd, Int.reduceSub, Int.reduceMul, Nat.reduceMul, Qp0, Ql0, Qe0]
    refine hI.out.mono ?_
    rintro v hz ⟨rfl, hzq⟩
    obtain rfl := hzq.symm
    simp -dsimp -implicitDefEqProofs (disch := first | omega | assumption | (simp only [Option.isSome_some, Qt0]; done) | (simp only [UInt64.reduceToNat, UInt32.reduceToNat, UInt8.reduceToNat, List.length_cons, List.length_nil, List.length_append, Int.toNat_natCast] <;> omega)) only [Nat.reduceLT, Nat.reduceLeDiff, Nat.reduceEqDiff, ↓reduceIte, Int.reduceLT, Int.reduceLE, Int.reduceToNat, Int.reduceEq, Int.reduceNe, Nat.reduceAdd, UInt8.reduceOfNat, UInt16.reduceOfNat, UInt32.reduceOfNat, UInt64.reduceOfNat, UInt64.reduceToNat, UInt32.reduceToNat, UInt16.reduceToNat, UInt8.reduceToNat, Int.reduceAdd, Int.reduceSub, Int.reduceMul, Nat.reduceMul, Qp0, Ql0, Qe0]
    exact ⟨_, hle, by trivial⟩
  have hrg' := hrg
  obtain ⟨r1, r2, r3, r4⟩ := hrg'
  have hN := Lib.hid (lnew_ok region n hrg w h1)
  simp -dsimp -implicitDefEqProofs (disch := first | omega | assumption | (simp only [Option.isSome_some, Qt0]; done) | (simp only [UInt64.reduceToNat, UInt32.reduceToNat, UInt8.reduceToNat, List.length_cons, List.length_nil, List.length_append, Int.toNat_natCast] <;> omega)) only [Nat.reduceLT, Nat.reduceLeDiff, Nat.reduceEqDiff, ↓reduceIte, Int.reduceLT, Int.reduceLE, Int.reduceToNat, Int.reduceEq, Int.reduceNe, Nat.reduceAdd, UInt8.reduceOfNat, UInt16.reduceOfNat, UInt32.reduceOfNat, UInt64.reduceOfNat, UInt64.reduceToNat, UInt32.reduceToNat, UInt16.reduceToNat, UInt8.reduceToNat, Int.reduceAdd, Int.reduceSub, Int.reduceMul, Nat.reduceMul, Qp0, Ql0, Qe0]
  refine hN.out.mono ?_
  rintro v h2 ⟨b, rfl, hb, rfl⟩
  have hle2 := hl1.trans ((PH.Le.refl h1).new b ⟨lsL region n (List.replicate 17 0), 19⟩ hb)
  have hmb : (h1.new b ⟨lsL region n (List.replicate 17 0), 19⟩).m b = some ⟨lsL region n (List.replicate 17 0), 19⟩ := by rw [PH.new_m, if_pos rfl]
  have hwb : w.heap.size ≤ b := Nat.le_trans hl1.top hb
  generalize h1.new b ⟨lsL region n (List.replicate 17 0), 19⟩ = h2 at *
  have hR := Lib.hid (rlnew_ok region n hrg w h2)
  simp -dsimp -implicitDefEqProofs (disch := first | omega | assumption | (simp only [Option.isSome_some, Qt0]; done) | (simp only [UInt64.reduceToNat, UInt32.reduceToNat, UInt8.reduceToNat, List.length_cons, List.length_nil, List.length_append, Int.toNat_natCast] <;> omega)) only [Nat.reduceLT, Nat.reduceLeDiff, Nat.reduceEqDiff, ↓reduceIte, Int.reduceLT, Int.reduceLE, Int.reduceToNat, Int.reduceEq, Int.reduceNe, Nat.reduceAdd, UInt8.reduceOfNat, UInt16.reduceOfNat, UInt32.reduceOfNat, UInt64.reduceOfNat, UInt64.reduceToNat, UInt32.reduceToNat, UInt16.reduceToNat, UInt8.reduceToNat, Int.reduceAdd, Int.reduceSub, Int.reduceMul, Nat.reduceMul, Qp0, Ql0, Qe0]
  refine hR.out.mono ?_
  rintro v h3 ⟨d, c, rfl, hd, hdc, rfl⟩
  have hbl := h2.lt _ _ hmb
  have hST : ST region n b c d (PH.empty w) ((h2.new d ⟨iz (List.replicate n.toNat 0), n.toNat⟩).new c ⟨wsL region n d n.toNat, 3⟩) (List.replicate 17 0) (List.replicate n.toNat 0) := by
    refine ⟨by simp, by simp; omega, fun r hr => ?_, ?_, ?_, ?_, (hle2.new _ _ (Nat.le_trans hle2.top hd)).new _ _ (by have := hle2.top; omega)⟩
    · simp only [List.getD, List.getElem?_replicate]
      split <;> split <;> rfl
    · rw [PH.new_m, if_neg (by omega), PH.new_m, if_neg (by omega)]; exact hmb
    · rw [PH.new_m, if_pos rfl, List.length_replicate]
    · rw [PH.new_m, if_neg (by omega), PH.new_m, if_pos rfl, List.length_replicate]
  have hbd : b ≠ d := by omega
  have hbc : b ≠ c := by omega
  generalize (h2.new d ⟨iz (List.replicate n.toNat 0), n.toNat⟩).new c ⟨wsL region n d n.toNat, 3⟩ = h3 at *
  have hzl : z_l.length = n_l * 4 := by simpa using hr_l.1
  simp -dsimp -implicitDefEqProofs (disch := first | omega | assumption | (simp only [Option.isSome_some, Qt0]; done) | (simp only [UInt64.reduceToNat, UInt32.reduceToNat, UInt8.reduceToNat, List.length_cons, List.length_nil, List.length_append, Int.toNat_natCast] <;> omega)) only [Nat.reduceLT, Nat.reduceLeDiff, Nat.reduceEqDiff, ↓reduceIte, Int.reduceLT, Int.reduceLE, Int.reduceToNat, Int.reduceEq, Int.reduceNe, Nat.reduceAdd, UInt8.reduceOfNat, UInt16.reduceOfNat, UInt32.reduceOfNat, UInt64.reduceOfNat, UInt64.reduceToNat, UInt32.reduceToNat, UInt16.reduceToNat, UInt8.reduceToNat, Int.reduceAdd, Int.reduceSub, Int.reduceMul, Nat.reduceMul, Qp0, Ql0, Qe0]
  refine PW_loopL (fun m f h' => ∃ (i : Nat) (u W : List Int), i + m = n_l ∧ f 2 = some (.slice A_l n_l c_l) ∧ f 7 = some (.pointer (some ⟨b, 0, none⟩)) ∧ f 9 = some (.pointer (some ⟨c, 0, none⟩)) ∧ f 11 = some (.int .i64 i) ∧ ST region n b c d (PH.empty w) h' u W) (by kernel_rfl) n_l ⟨0, _, _, by omega, ?_, ?_, ?_, ?_, hST⟩ ?_
  · simp -dsimp -implicitDefEqProofs (disch := first | omega | assumption | (simp only [Option.isSome_some, Qt0]; done) | (simp only [UInt64.reduceToNat, UInt32.reduceToNat, UInt8.reduceToNat, List.length_cons, List.length_nil, List.length_append, Int.toNat_natCast] <;> omega)) only [Nat.reduceLT, Nat.reduceLeDiff, Nat.reduceEqDiff, ↓reduceIte, Int.reduceLT, Int.reduceLE, Int.reduceToNat, Int.reduceEq, Int.reduceNe, Nat.reduceAdd, UInt8.reduceOfNat, UInt16.reduceOfNat, UInt32.reduceOfNat, UInt64.reduceOfNat, UInt64.reduceToNat, UInt32.reduceToNat, UInt16.reduceToNat, UInt8.reduceToNat, Int.reduceAdd, Int.reduceSub, Int.reduceMul, Nat.reduceMul, Qp0, Ql0, Qe0]
  · simp -dsimp -implicitDefEqProofs (disch := first | omega | assumption | (simp only [Option.isSome_some, Qt0]; done) | (simp only [UInt64.reduceToNat, UInt32.reduceToNat, UInt8.reduceToNat, List.length_cons, List.length_nil, List.length_append, Int.toNat_natCast] <;> omega)) only [Nat.reduceLT, Nat.reduceLeDiff, Nat.reduceEqDiff, ↓reduceIte, Int.reduceLT, Int.reduceLE, Int.reduceToNat, Int.reduceEq, Int.reduceNe, Nat.reduceAdd, UInt8.reduceOfNat, UInt16.reduceOfNat, UInt32.reduceOfNat, UInt64.reduceOfNat, UInt64.reduceToNat, UInt32.reduceToNat, UInt16.reduceToNat, UInt8.reduceToNat, Int.reduceAdd, Int.reduceSub, Int.reduceMul, Nat.reduceMul, Qp0, Ql0, Qe0]
  · simp -dsimp -implicitDefEqProofs (disch := first | omega | assumption | (simp only [Option.isSome_some, Qt0]; done) | (simp only [UInt64.reduceToNat, UInt32.reduceToNat, UInt8.reduceToNat, List.length_cons, List.length_nil, List.length_append, Int.toNat_natCast] <;> omega)) only [Nat.reduceLT, Nat.reduceLeDiff, Nat.reduceEqDiff, ↓reduceIte, Int.reduceLT, Int.reduceLE, Int.reduceToNat, Int.reduceEq, Int.reduceNe, Nat.reduceAdd, UInt8.reduceOfNat, UInt16.reduceOfNat, UInt32.reduceOfNat, UInt64.reduceOfNat, UInt64.reduceToNat, UInt32.reduceToNat, UInt16.reduceToNat, UInt8.reduceToNat, Int.reduceAdd, Int.reduceSub, Int.reduceMul, Nat.reduceMul, Qp0, Ql0, Qe0]
  · simp -dsimp -implicitDefEqProofs (disch := first | omega | assumption | (simp only [Option.isSome_some, Qt0]; done) | (simp only [UInt64.reduceToNat, UInt32.reduceToNat, UInt8.reduceToNat, List.length_cons, List.length_nil, List.length_append, Int.toNat_natCast] <;> omega)) only [Nat.reduceLT, Nat.reduceLeDiff, Nat.reduceEqDiff, ↓reduceIte, Int.reduceLT, Int.reduceLE, Int.reduceToNat, Int.reduceEq, Int.reduceNe, Nat.reduceAdd, UInt8.reduceOfNat, UInt16.reduceOfNat, UInt32.reduceOfNat, UInt64.reduceOfNat, UInt64.reduceToNat, UInt32.reduceToNat, UInt16.reduceToNat, UInt8.reduceToNat, Int.reduceAdd, Int.reduceSub, Int.reduceMul, Nat.reduceMul, Qp0, Ql0, Qe0]
    try rfl
  clear hST
  rintro m f h' ⟨i, u, W, him, f2, f7, f9, f11, hST⟩ hlow
  have hle' := hST.2.2.2.2.2.2
  by_cases hi : i < n_l
  rotate_left
  · have e1 : decide ((i : Int) < (n_l : Int)) = false := decide_eq_false (by omega)
    simp -dsimp -implicitDefEqProofs (disch := first | omega | assumption | (simp only [Option.isSome_some, Qt0]; done) | (simp only [UInt64.reduceToNat, UInt32.reduceToNat, UInt8.reduceToNat, List.length_cons, List.length_nil, List.length_append, Int.toNat_natCast] <;> omega)) only [Nat.reduceLT, Nat.reduceLeDiff, Nat.reduceEqDiff, ↓reduceIte, Int.reduceLT, Int.reduceLE, Int.reduceToNat, Int.reduceEq, Int.reduceNe, Nat.reduceAdd, UInt8.reduceOfNat, UInt16.reduceOfNat, UInt32.reduceOfNat, UInt64.reduceOfNat, UInt64.reduceToNat, UInt32.reduceToNat, UInt16.reduceToNat, UInt8.reduceToNat, Int.reduceAdd, Int.reduceSub, Int.reduceMul, Nat.reduceMul, Qp0, Ql0, Qe0, f2, f7, f9, f11, e1]
    exact ⟨_, hle', by trivial⟩
  have e1 : decide ((i : Int) < (n_l : Int)) = true := decide_eq_true (by omega)
  by_cases hi2 : i < 200
  rotate_left
  · have e2 : decide ((i : Int) < 200) = false := decide_eq_false (by omega)
    simp -dsimp -implicitDefEqProofs (disch := first | omega | assumption | (simp only [Option.isSome_some, Qt0]; done) | (simp only [UInt64.reduceToNat, UInt32.reduceToNat, UInt8.reduceToNat, List.length_cons, List.length_nil, List.length_append, Int.toNat_natCast] <;> omega)) only [Nat.reduceLT, Nat.reduceLeDiff, Nat.reduceEqDiff, ↓reduceIte, Int.reduceLT, Int.reduceLE, Int.reduceToNat, Int.reduceEq, Int.reduceNe, Nat.reduceAdd, UInt8.reduceOfNat, UInt16.reduceOfNat, UInt32.reduceOfNat, UInt64.reduceOfNat, UInt64.reduceToNat, UInt32.reduceToNat, UInt16.reduceToNat, UInt8.reduceToNat, Int.reduceAdd, Int.reduceSub, Int.reduceMul, Nat.reduceMul, Qp0, Ql0, Qe0, f2, f7, f9, f11, e1, e2]
    exact ⟨_, hle', by trivial⟩
  have e2 : decide ((i : Int) < 200) = true := decide_eq_true (by omega)
  obtain ⟨bl, ol, rfl⟩ := rd_param_addr hr_l (by omega)
  obtain ⟨hbl2, hrd⟩ := rd_param hr_l (by omega)
  have hmbl := hlow bl hbl2
  obtain ⟨x0, hx0⟩ : ∃ x, z_l[i * 4]? = some x := ⟨_, List.getElem?_eq_getElem (by omega)⟩
  obtain ⟨x1, hx1⟩ : ∃ x, z_l[i * 4 + 1]? = some x := ⟨_, List.getElem?_eq_getElem (by omega)⟩
  obtain ⟨x2, hx2⟩ : ∃ x, z_l[i * 4 + 2]? = some x := ⟨_, List.getElem?_eq_getElem (by omega)⟩
  obtain ⟨x3, hx3⟩ : ∃ x, z_l[i * 4 + 3]? = some x := ⟨_, List.getElem?_eq_getElem (by omega)⟩
  have y0 := hrd (i * 4) (.int .i64 x0) (by simp [hx0])
  have y1 := hrd (i * 4 + 1) (.int .i64 x1) (by simp [hx1])
  have y2 := hrd (i * 4 + 2) (.int .i64 x2) (by simp [hx2])
  have y3 := hrd (i * 4 + 3) (.int .i64 x3) (by simp [hx3])
  rw [← Nat.add_assoc] at y1 y2 y3
  have hN4 : rdN w h' ⟨bl, ol + i * 4, none⟩ 4 = some [.int .i64 x0, .int .i64 x1, .int .i64 x2, .int .i64 x3] := by
    unfold rdN
    simp only [hmbl]
    rw [show List.range 4 = [0, 1, 2, 3] from rfl]
    simp [Addr.add, rd_M, hmbl, y0, y1, y2, y3]
  simp -dsimp -implicitDefEqProofs (disch := first | omega | assumption | (simp only [Option.isSome_some, Qt0]; done) | (simp only [UInt64.reduceToNat, UInt32.reduceToNat, UInt8.reduceToNat, List.length_cons, List.length_nil, List.length_append, Int.toNat_natCast] <;> omega)) only [Nat.reduceLT, Nat.reduceLeDiff, Nat.reduceEqDiff, ↓reduceIte, Int.reduceLT, Int.reduceLE, Int.reduceToNat, Int.reduceEq, Int.reduceNe, Nat.reduceAdd, UInt8.reduceOfNat, UInt16.reduceOfNat, UInt32.reduceOfNat, UInt64.reduceOfNat, UInt64.reduceToNat, UInt32.reduceToNat, UInt16.reduceToNat, UInt8.reduceToNat, Int.reduceAdd, Int.reduceSub, Int.reduceMul, Nat.reduceMul, Qp0, Ql0, Qe0, f2, f7, f9, f11, e1, e2, hN4]
  refine fun ob hob => ?_
  have hz4 := allOne22 [.int .i64 x0, .int .i64 x1, .int .i64 x2, .int .i64 x3] rfl
  obtain ⟨hu, hW, hrel, mb, mc, md, _⟩ := hST
  have hlo := (PH.Le.refl h').new ob ⟨[.int .i64 x0, .int .i64 x1, .int .i64 x2, .int .i64 x3], 4⟩ hob
  have mo : (h'.new ob ⟨[.int .i64 x0, .int .i64 x1, .int .i64 x2, .int .i64 x3], 4⟩).m ob = some ⟨[.int .i64 x0, .int .i64 x1, .int .i64 x2, .int .i64 x3], 4⟩ := by rw [PH.new_m, if_pos rfl]
  have hob2 : b ≠ ob ∧ c ≠ ob ∧ d ≠ ob := ⟨by have := h'.lt _ _ mb; omega, by have := h'.lt _ _ mc; omega, by have := h'.lt _ _ md; omega⟩
  have hdr : List.drop 4 (List.replicate 4 (Value.int .i64 0)) = [] := rfl
  simp -dsimp -implicitDefEqProofs (disch := first | omega | assumption | (simp only [Option.isSome_some, Qt0]; done) | (simp only [UInt64.reduceToNat, UInt32.reduceToNat, UInt8.reduceToNat, List.length_cons, List.length_nil, List.length_append, Int.toNat_natCast] <;> omega)) only [Nat.reduceLT, Nat.reduceLeDiff, Nat.reduceEqDiff, ↓reduceIte, Int.reduceLT, Int.reduceLE, Int.reduceToNat, Int.reduceEq, Int.reduceNe, Nat.reduceAdd, UInt8.reduceOfNat, UInt16.reduceOfNat, UInt32.reduceOfNat, UInt64.reduceOfNat, UInt64.reduceToNat, UInt32.reduceToNat, UInt16.reduceToNat, UInt8.reduceToNat, Int.reduceAdd, Int.reduceSub, Int.reduceMul, Nat.reduceMul, Qp0, Ql0, Qe0, f2, f7, f9, f11, hz4, hdr, PH.new_new, List.take_zero, List.drop_succ_cons, List.drop_zero, List.drop_nil, List.nil_append, List.append_nil, rdN_new, List.take_succ_cons, ite_true]
  have mb1 := hlo.m _ _ mb
  have mc1 := hlo.m _ _ mc
  have md1 := hlo.m _ _ md
  have hle1 := hle'.trans hlo
  generalize h'.new ob ⟨[.int .i64 x0, .int .i64 x1, .int .i64 x2, .int .i64 x3], 4⟩ = g1 at *
  have k0 : ([.int .i64 x0, .int .i64 x1, .int .i64 x2, .int .i64 x3] : List Value)[0]? = some (.int .i64 x0) := rfl
  have k1 : ([.int .i64 x0, .int .i64 x1, .int .i64 x2, .int .i64 x3] : List Value)[1]? = some (.int .i64 x1) := rfl
  have k2 : ([.int .i64 x0, .int .i64 x1, .int .i64 x2, .int .i64 x3] : List Value)[2]? = some (.int .i64 x2) := rfl
  have k3 : ([.int .i64 x0, .int .i64 x1, .int .i64 x2, .int .i64 x3] : List Value)[3]? = some (.int .i64 x3) := rfl
  have hU := Lib.hid (luntil_any b region n x0 u r2 hu w g1 mb1)
  obtain ⟨was, hwas⟩ : ∃ was, (if isB region n x0 then u.getD x0.toNat 0 else 0) = was := ⟨_, rfl⟩
  rw [hwas] at hU
  have hU := Lib.hid hU.out
  generalize [Value.int .i64 x0, Value.int .i64 x1, Value.int .i64 x2, Value.int .i64 x3] = OO at *
  simp -dsimp -implicitDefEqProofs (disch := first | omega | assumption | (simp only [Option.isSome_some, Qt0]; done) | (simp only [UInt64.reduceToNat, UInt32.reduceToNat, UInt8.reduceToNat, List.length_cons, List.length_nil, List.length_append, Int.toNat_natCast] <;> omega)) only [Nat.reduceLT, Nat.reduceLeDiff, Nat.reduceEqDiff, ↓reduceIte, Int.reduceLT, Int.reduceLE, Int.reduceToNat, Int.reduceEq, Int.reduceNe, Nat.reduceAdd, UInt8.reduceOfNat, UInt16.reduceOfNat, UInt32.reduceOfNat, UInt64.reduceOfNat, UInt64.reduceToNat, UInt32.reduceToNat, UInt16.reduceToNat, UInt8.reduceToNat, Int.reduceAdd, Int.reduceSub, Int.reduceMul, Nat.reduceMul, Qp0, Ql0, Qe0, f2, f7, f9, f11, rd_M, rdM_some, mo, k0, k1, k2, k3]
  refine hU.out.mono ?_
  rintro v hz ⟨rfl, hzq⟩
  obtain rfl := hzq.symm
  simp -dsimp -implicitDefEqProofs (disch := first | omega | assumption | (simp only [Option.isSome_some, Qt0]; done) | (simp only [UInt64.reduceToNat, UInt32.reduceToNat, UInt8.reduceToNat, List.length_cons, List.length_nil, List.length_append, Int.toNat_natCast] <;> omega)) only [Nat.reduceLT, Nat.reduceLeDiff, Nat.reduceEqDiff, ↓reduceIte, Int.reduceLT, Int.reduceLE, Int.reduceToNat, Int.reduceEq, Int.reduceNe, Nat.reduceAdd, UInt8.reduceOfNat, UInt16.reduceOfNat, UInt32.reduceOfNat, UInt64.reduceOfNat, UInt64.reduceToNat, UInt32.reduceToNat, UInt16.reduceToNat, UInt8.reduceToNat, Int.reduceAdd, Int.reduceSub, Int.reduceMul, Nat.reduceMul, Qp0, Ql0, Qe0, f2, f7, f9, f11]
  obtain ⟨hS, hSm, hSs⟩ := solo22 w g1 ob 4 OO [] (by rw [List.append_nil]; exact mo)
  have hSub : ∀ q, g1.top ≤ q.top → q.m ob = some ⟨OO, 4⟩ → PH.Sub w hS q := fun q h1 h2 => hSs q [] h1 (by rw [List.append_nil]; exact h2)
  refine PW_mono (Q := fun e f2 q => e = .normal ∧ f2 2 = some (.slice (some ⟨bl, ol, none⟩) n_l c_l) ∧ f2 7 = some (.pointer (some ⟨b, 0, none⟩)) ∧ f2 9 = some (.pointer (some ⟨c, 0, none⟩)) ∧ f2 11 = some (.int .i64 i) ∧ f2 12 = some (.pointer (some ⟨ob, 0, none⟩)) ∧ f2 91 = some (.bool false) ∧ q.m ob = some ⟨OO, 4⟩ ∧ ∃ u W, ST region n b c d (PH.empty w) q u W) (PW_plan [0, 1, 2, 3, 4, 5, 6, 8, 9, 10, 11, 12, 13, 14, 7, 15, 16, 17, 18, 19, 20, 22, 21, 23, 24] hS (by kernel_rfl) (by decide +kernel) (by kernel_rfl) (by kernel_rfl) (by kernel_rfl) (fun c f h hq => by cases hq.1) (hSub _ (Nat.le_refl _) mo) ?_) (fun e f2 q hQ => ?_)
  · have hG1 := lgrant_any b region n x0 x1 x2 u r2 hu w g1 mb1
    cases hg : gB region n (u.getD x0.toNat 0) x0 x1 x2
    · rw [hg, if_neg (by simp)] at hG1
      have hG1 := Lib.hid hG1
      have hG2 := rgrant_any c d region n x0 x1 x2 W r2 hW w g1 mc1 md1
      rw [← gB_same hrel, hg, if_neg (by simp)] at hG2
      have hG2 := Lib.hid hG2
      have hU2 := luntil_any b region n x0 u r2 hu w g1 mb1
      rw [hwas] at hU2
      have hU2 := Lib.hid hU2
      have hww : decide (was < was) = false := decide_eq_false (by omega)
      simp -dsimp -implicitDefEqProofs (disch := first | omega | assumption | (simp only [Option.isSome_some, Qt0]; done) | (simp only [UInt64.reduceToNat, UInt32.reduceToNat, UInt8.reduceToNat, List.length_cons, List.length_nil, List.length_append, Int.toNat_natCast] <;> omega)) only [Nat.reduceLT, Nat.reduceLeDiff, Nat.reduceEqDiff, ↓reduceIte, Int.reduceLT, Int.reduceLE, Int.reduceToNat, Int.reduceEq, Int.reduceNe, Nat.reduceAdd, UInt8.reduceOfNat, UInt16.reduceOfNat, UInt32.reduceOfNat, UInt64.reduceOfNat, UInt64.reduceToNat, UInt32.reduceToNat, UInt16.reduceToNat, UInt8.reduceToNat, Int.reduceAdd, Int.reduceSub, Int.reduceMul, Nat.reduceMul, Qp0, Ql0, Qe0, f2, f7, f9, f11, rd_M, rdM_some, hSm, k0, k1, k2, k3]
      refine hG1.out.mono ?_
      rintro v hy ⟨rfl, hyq⟩
      obtain rfl := hyq.symm
      simp -dsimp -implicitDefEqProofs (disch := first | omega | assumption | (simp only [Option.isSome_some, Qt0]; done) | (simp only [UInt64.reduceToNat, UInt32.reduceToNat, UInt8.reduceToNat, List.length_cons, List.length_nil, List.length_append, Int.toNat_natCast] <;> omega)) only [Nat.reduceLT, Nat.reduceLeDiff, Nat.reduceEqDiff, ↓reduceIte, Int.reduceLT, Int.reduceLE, Int.reduceToNat, Int.reduceEq, Int.reduceNe, Nat.reduceAdd, UInt8.reduceOfNat, UInt16.reduceOfNat, UInt32.reduceOfNat, UInt64.reduceOfNat, UInt64.reduceToNat, UInt32.reduceToNat, UInt16.reduceToNat, UInt8.reduceToNat, Int.reduceAdd, Int.reduceSub, Int.reduceMul, Nat.reduceMul, Qp0, Ql0, Qe0, f2, f7, f9, f11]
      refine ⟨hSub _ (Nat.le_refl _) mo, ?_⟩
      simp -dsimp -implicitDefEqProofs (disch := first | omega | assumption | (simp only [Option.isSome_some, Qt0]; done) | (simp only [UInt64.reduceToNat, UInt32.reduceToNat, UInt8.reduceToNat, List.length_cons, List.length_nil, List.length_append, Int.toNat_natCast] <;> omega)) only [Nat.reduceLT, Nat.reduceLeDiff, Nat.reduceEqDiff, ↓reduceIte, Int.reduceLT, Int.reduceLE, Int.reduceToNat, Int.reduceEq, Int.reduceNe, Nat.reduceAdd, UInt8.reduceOfNat, UInt16.reduceOfNat, UInt32.reduceOfNat, UInt64.reduceOfNat, UInt64.reduceToNat, UInt32.reduceToNat, UInt16.reduceToNat, UInt8.reduceToNat, Int.reduceAdd, Int.reduceSub, Int.reduceMul, Nat.reduceMul, Qp0, Ql0, Qe0, f2, f7, f9, f11]
      refine hG2.out.mono ?_
      rintro v hy ⟨rfl, hyq⟩
      obtain rfl := hyq.symm
      simp -dsimp -implicitDefEqProofs (disch := first | omega | assumption | (simp only [Option.isSome_some, Qt0]; done) | (simp only [UInt64.reduceToNat, UInt32.reduceToNat, UInt8.reduceToNat, List.length_cons, List.length_nil, List.length_append, Int.toNat_natCast] <;> omega)) only [Nat.reduceLT, Nat.reduceLeDiff, Nat.reduceEqDiff, ↓reduceIte, Int.reduceLT, Int.reduceLE, Int.reduceToNat, Int.reduceEq, Int.reduceNe, Nat.reduceAdd, UInt8.reduceOfNat, UInt16.reduceOfNat, UInt32.reduceOfNat, UInt64.reduceOfNat, UInt64.reduceToNat, UInt32.reduceToNat, UInt16.reduceToNat, UInt8.reduceToNat, Int.reduceAdd, Int.reduceSub, Int.reduceMul, Nat.reduceMul, Qp0, Ql0, Qe0, f2, f7, f9, f11]
      refine ⟨hSub _ (Nat.le_refl _) mo, ?_⟩
      simp -dsimp -implicitDefEqProofs (disch := first | omega | assumption | (simp only [Option.isSome_some, Qt0]; done) | (simp only [UInt64.reduceToNat, UInt32.reduceToNat, UInt8.reduceToNat, List.length_cons, List.length_nil, List.length_append, Int.toNat_natCast] <;> omega)) only [Nat.reduceLT, Nat.reduceLeDiff, Nat.reduceEqDiff, ↓reduceIte, Int.reduceLT, Int.reduceLE, Int.reduceToNat, Int.reduceEq, Int.reduceNe, Nat.reduceAdd, UInt8.reduceOfNat, UInt16.reduceOfNat, UInt32.reduceOfNat, UInt64.reduceOfNat, UInt64.reduceToNat, UInt32.reduceToNat, UInt16.reduceToNat, UInt8.reduceToNat, Int.reduceAdd, Int.reduceSub, Int.reduceMul, Nat.reduceMul, Qp0, Ql0, Qe0, f2, f7, f9, f11, rd_M, rdM_some, hSm, k0, k1, k2, k3]
      refine hU2.out.mono ?_
      rintro v hy ⟨rfl, hyq⟩
      obtain rfl := hyq.symm
      simp -dsimp -implicitDefEqProofs (disch := first | omega | assumption | (simp only [Option.isSome_some, Qt0]; done) | (simp only [UInt64.reduceToNat, UInt32.reduceToNat, UInt8.reduceToNat, List.length_cons, List.length_nil, List.length_append, Int.toNat_natCast] <;> omega)) only [Nat.reduceLT, Nat.reduceLeDiff, Nat.reduceEqDiff, ↓reduceIte, Int.reduceLT, Int.reduceLE, Int.reduceToNat, Int.reduceEq, Int.reduceNe, Nat.reduceAdd, UInt8.reduceOfNat, UInt16.reduceOfNat, UInt32.reduceOfNat, UInt64.reduceOfNat, UInt64.reduceToNat, UInt32.reduceToNat, UInt16.reduceToNat, UInt8.reduceToNat, Int.reduceAdd, Int.reduceSub, Int.reduceMul, Nat.reduceMul, Qp0, Ql0, Qe0, f2, f7, f9, f11, hww]
      refine ⟨hSub _ (Nat.le_refl _) mo, ?_⟩
      simp -dsimp -implicitDefEqProofs (disch := first | omega | assumption | (simp only [Option.isSome_some, Qt0]; done) | (simp only [UInt64.reduceToNat, UInt32.reduceToNat, UInt8.reduceToNat, List.length_cons, List.length_nil, List.length_append, Int.toNat_natCast] <;> omega)) only [Nat.reduceLT, Nat.reduceLeDiff, Nat.reduceEqDiff, ↓reduceIte, Int.reduceLT, Int.reduceLE, Int.reduceToNat, Int.reduceEq, Int.reduceNe, Nat.reduceAdd, UInt8.reduceOfNat, UInt16.reduceOfNat, UInt32.reduceOfNat, UInt64.reduceOfNat, UInt64.reduceToNat, UInt32.reduceToNat, UInt16.reduceToNat, UInt8.reduceToNat, Int.reduceAdd, Int.reduceSub, Int.reduceMul, Nat.reduceMul, Qp0, Ql0, Qe0, f2, f7, f9, f11, hww]
      exact ⟨by trivial, by simp [f2], by simp [f7], by simp [f9], by simp [f11], by simp, by simp, mo, u, W, hu, hW, hrel, mb1, mc1, md1, hle1⟩
    · rw [hg, if_pos rfl] at hG1
      have hG1 := Lib.hid hG1
      have hif : isB region n x0 = true := by
        unfold gB at hg
        cases e : isB region n x0
        · rw [e] at hg; cases hg
        · rfl
      obtain ⟨i1, i2, i3⟩ := isB_iff.1 hif
      have hold : ¬ x1 + 12 ≤ u.getD x0.toNat 0 := by
        unfold gB at hg
        simp only [Bool.and_eq_true, decide_eq_true_eq] at hg
        exact hg.2.2.2.2
      rw [hif, if_pos rfl] at hwas
      rw [hwas] at hold
      have hlb := h'.lt
      have m2b : (g1.new b ⟨lsL region n (u.set x0.toNat (x1 + 12)), 19⟩).m b = some ⟨lsL region n (u.set x0.toNat (x1 + 12)), 19⟩ := by rw [PH.new_m, if_pos rfl]
      have m2c : (g1.new b ⟨lsL region n (u.set x0.toNat (x1 + 12)), 19⟩).m c = some ⟨wsL region n d W.length, 3⟩ := by rw [PH.new_m, if_neg hbc.symm]; exact mc1
      have m2d : (g1.new b ⟨lsL region n (u.set x0.toNat (x1 + 12)), 19⟩).m d = some ⟨iz W, W.length⟩ := by rw [PH.new_m, if_neg hbd.symm]; exact md1
      have m2o : (g1.new b ⟨lsL region n (u.set x0.toNat (x1 + 12)), 19⟩).m ob = some ⟨OO, 4⟩ := by rw [PH.new_m, if_neg hob2.1.symm]; exact mo
      have t2 : g1.top ≤ (g1.new b ⟨lsL region n (u.set x0.toNat (x1 + 12)), 19⟩).top := by simp only [PH.new_top]; omega
      have hle2' := hle1.new b ⟨lsL region n (u.set x0.toNat (x1 + 12)), 19⟩ hwb
      generalize g1.new b ⟨lsL region n (u.set x0.toNat (x1 + 12)), 19⟩ = g2 at *
      have hG2 := rgrant_any c d region n x0 x1 x2 W r2 hW w g2 m2c m2d
      rw [← gB_same hrel, hg, if_pos rfl] at hG2
      have hG2 := Lib.hid hG2
      have m3d : (g2.new d ⟨iz (W.set (x0 - 1).toNat (x1 + 12)), W.length⟩).m d = some ⟨iz (W.set (x0 - 1).toNat (x1 + 12)), (W.set (x0 - 1).toNat (x1 + 12)).length⟩ := by rw [PH.new_m, if_pos rfl, List.length_set]
      have m3b : (g2.new d ⟨iz (W.set (x0 - 1).toNat (x1 + 12)), W.length⟩).m b = some ⟨lsL region n (u.set x0.toNat (x1 + 12)), 19⟩ := by rw [PH.new_m, if_neg hbd]; exact m2b
      have m3c : (g2.new d ⟨iz (W.set (x0 - 1).toNat (x1 + 12)), W.length⟩).m c = some ⟨wsL region n d (W.set (x0 - 1).toNat (x1 + 12)).length, 3⟩ := by rw [PH.new_m, if_neg (by omega), List.length_set]; exact m2c
      have m3o : (g2.new d ⟨iz (W.set (x0 - 1).toNat (x1 + 12)), W.length⟩).m ob = some ⟨OO, 4⟩ := by rw [PH.new_m, if_neg hob2.2.2.symm]; exact m2o
      have t3 : g1.top ≤ (g2.new d ⟨iz (W.set (x0 - 1).toNat (x1 + 12)), W.length⟩).top := by simp only [PH.new_top]; omega
      have hle3' := hle2'.new d ⟨iz (W.set (x0 - 1).toNat (x1 + 12)), W.length⟩ (Nat.le_trans hle2.top hd)
      generalize g2.new d ⟨iz (W.set (x0 - 1).toNat (x1 + 12)), W.length⟩ = g3 at *
      have hU2 := luntil_any b region n x0 (u.set x0.toNat (x1 + 12)) r2 (by rw [List.length_set]; exact hu) w g3 m3b
      have hval : (u.set x0.toNat (x1 + 12)).getD x0.toNat 0 = x1 + 12 := by
        simp only [List.getD]
        rw [List.getElem?_set_self (by omega)]
        rfl
      rw [hif, if_pos rfl, hval] at hU2
      have hU2 := Lib.hid hU2
      have hww : decide (x1 + 12 < was) = false := decide_eq_false (by omega)
      simp -dsimp -implicitDefEqProofs (disch := first | omega | assumption | (simp only [Option.isSome_some, Qt0]; done) | (simp only [UInt64.reduceToNat, UInt32.reduceToNat, UInt8.reduceToNat, List.length_cons, List.length_nil, List.length_append, Int.toNat_natCast] <;> omega)) only [Nat.reduceLT, Nat.reduceLeDiff, Nat.reduceEqDiff, ↓reduceIte, Int.reduceLT, Int.reduceLE, Int.reduceToNat, Int.reduceEq, Int.reduceNe, Nat.reduceAdd, UInt8.reduceOfNat, UInt16.reduceOfNat, UInt32.reduceOfNat, UInt64.reduceOfNat, UInt64.reduceToNat, UInt32.reduceToNat, UInt16.reduceToNat, UInt8.reduceToNat, Int.reduceAdd, Int.reduceSub, Int.reduceMul, Nat.reduceMul, Qp0, Ql0, Qe0, f2, f7, f9, f11, rd_M, rdM_some, hSm, k0, k1, k2, k3]
      refine hG1.out.mono ?_
      rintro v hy ⟨rfl, hyq⟩
      obtain rfl := hyq.symm
      simp -dsimp -implicitDefEqProofs (disch := first | omega | assumption | (simp only [Option.isSome_some, Qt0]; done) | (simp only [UInt64.reduceToNat, UInt32.reduceToNat, UInt8.reduceToNat, List.length_cons, List.length_nil, List.length_append, Int.toNat_natCast] <;> omega)) only [Nat.reduceLT, Nat.reduceLeDiff, Nat.reduceEqDiff, ↓reduceIte, Int.reduceLT, Int.reduceLE, Int.reduceToNat, Int.reduceEq, Int.reduceNe, Nat.reduceAdd, UInt8.reduceOfNat, UInt16.reduceOfNat, UInt32.reduceOfNat, UInt64.reduceOfNat, UInt64.reduceToNat, UInt32.reduceToNat, UInt16.reduceToNat, UInt8.reduceToNat, Int.reduceAdd, Int.reduceSub, Int.reduceMul, Nat.reduceMul, Qp0, Ql0, Qe0, f2, f7, f9, f11]
      refine ⟨hSub _ t2 m2o, ?_⟩
      simp -dsimp -implicitDefEqProofs (disch := first | omega | assumption | (simp only [Option.isSome_some, Qt0]; done) | (simp only [UInt64.reduceToNat, UInt32.reduceToNat, UInt8.reduceToNat, List.length_cons, List.length_nil, List.length_append, Int.toNat_natCast] <;> omega)) only [Nat.reduceLT, Nat.reduceLeDiff, Nat.reduceEqDiff, ↓reduceIte, Int.reduceLT, Int.reduceLE, Int.reduceToNat, Int.reduceEq, Int.reduceNe, Nat.reduceAdd, UInt8.reduceOfNat, UInt16.reduceOfNat, UInt32.reduceOfNat, UInt64.reduceOfNat, UInt64.reduceToNat, UInt32.reduceToNat, UInt16.reduceToNat, UInt8.reduceToNat, Int.reduceAdd, Int.reduceSub, Int.reduceMul, Nat.reduceMul, Qp0, Ql0, Qe0, f2, f7, f9, f11]
      refine hG2.out.mono ?_
      rintro v hy ⟨rfl, hyq⟩
      obtain rfl := hyq.symm
      simp -dsimp -implicitDefEqProofs (disch := first | omega | assumption | (simp only [Option.isSome_some, Qt0]; done) | (simp only [UInt64.reduceToNat, UInt32.reduceToNat, UInt8.reduceToNat, List.length_cons, List.length_nil, List.length_append, Int.toNat_natCast] <;> omega)) only [Nat.reduceLT, Nat.reduceLeDiff, Nat.reduceEqDiff, ↓reduceIte, Int.reduceLT, Int.reduceLE, Int.reduceToNat, Int.reduceEq, Int.reduceNe, Nat.reduceAdd, UInt8.reduceOfNat, UInt16.reduceOfNat, UInt32.reduceOfNat, UInt64.reduceOfNat, UInt64.reduceToNat, UInt32.reduceToNat, UInt16.reduceToNat, UInt8.reduceToNat, Int.reduceAdd, Int.reduceSub, Int.reduceMul, Nat.reduceMul, Qp0, Ql0, Qe0, f2, f7, f9, f11]
      refine ⟨hSub _ t3 m3o, ?_⟩
      simp -dsimp -implicitDefEqProofs (disch := first | omega | assumption | (simp only [Option.isSome_some, Qt0]; done) | (simp only [UInt64.reduceToNat, UInt32.reduceToNat, UInt8.reduceToNat, List.length_cons, List.length_nil, List.length_append, Int.toNat_natCast] <;> omega)) only [Nat.reduceLT, Nat.reduceLeDiff, Nat.reduceEqDiff, ↓reduceIte, Int.reduceLT, Int.reduceLE, Int.reduceToNat, Int.reduceEq, Int.reduceNe, Nat.reduceAdd, UInt8.reduceOfNat, UInt16.reduceOfNat, UInt32.reduceOfNat, UInt64.reduceOfNat, UInt64.reduceToNat, UInt32.reduceToNat, UInt16.reduceToNat, UInt8.reduceToNat, Int.reduceAdd, Int.reduceSub, Int.reduceMul, Nat.reduceMul, Qp0, Ql0, Qe0, f2, f7, f9, f11, rd_M, rdM_some, hSm, k0, k1, k2, k3]
      refine hU2.out.mono ?_
      rintro v hy ⟨rfl, hyq⟩
      obtain rfl := hyq.symm
      simp -dsimp -implicitDefEqProofs (disch := first | omega | assumption | (simp only [Option.isSome_some, Qt0]; done) | (simp only [UInt64.reduceToNat, UInt32.reduceToNat, UInt8.reduceToNat, List.length_cons, List.length_nil, List.length_append, Int.toNat_natCast] <;> omega)) only [Nat.reduceLT, Nat.reduceLeDiff, Nat.reduceEqDiff, ↓reduceIte, Int.reduceLT, Int.reduceLE, Int.reduceToNat, Int.reduceEq, Int.reduceNe, Nat.reduceAdd, UInt8.reduceOfNat, UInt16.reduceOfNat, UInt32.reduceOfNat, UInt64.reduceOfNat, UInt64.reduceToNat, UInt32.reduceToNat, UInt16.reduceToNat, UInt8.reduceToNat, Int.reduceAdd, Int.reduceSub, Int.reduceMul, Nat.reduceMul, Qp0, Ql0, Qe0, f2, f7, f9, f11, hww]
      refine ⟨hSub _ t3 m3o, ?_⟩
      simp -dsimp -implicitDefEqProofs (disch := first | omega | assumption | (simp only [Option.isSome_some, Qt0]; done) | (simp only [UInt64.reduceToNat, UInt32.reduceToNat, UInt8.reduceToNat, List.length_cons, List.length_nil, List.length_append, Int.toNat_natCast] <;> omega)) only [Nat.reduceLT, Nat.reduceLeDiff, Nat.reduceEqDiff, ↓reduceIte, Int.reduceLT, Int.reduceLE, Int.reduceToNat, Int.reduceEq, Int.reduceNe, Nat.reduceAdd, UInt8.reduceOfNat, UInt16.reduceOfNat, UInt32.reduceOfNat, UInt64.reduceOfNat, UInt64.reduceToNat, UInt32.reduceToNat, UInt16.reduceToNat, UInt8.reduceToNat, Int.reduceAdd, Int.reduceSub, Int.reduceMul, Nat.reduceMul, Qp0, Ql0, Qe0, f2, f7, f9, f11, hww]
      exact ⟨by trivial, by simp [f2], by simp [f7], by simp [f9], by simp [f11], by simp, by simp, m3o, _, _, by rw [List.length_set]; exact hu, by rw [List.length_set]; exact hW, set_same hrel hu hW r2 hif (x1 + 12), m3b, m3c, m3d, hle3'⟩
  clear hrel hu hW mb mc md mb1 mc1 md1 hSub hSm hSs mo
  obtain ⟨rfl, q2, q7, q9, q11, q12, q91, mo, u, W, hST⟩ := hQ
  have hST2 := hST
  obtain ⟨hu, hW, hrel, mb, mc, md, hle⟩ := hST2
  have hg0 := hg
  have hIs0 := Lib.hid (ris_any c region n x0 d W.length w q mc)
  simp -dsimp -implicitDefEqProofs (disch := first | omega | assumption | (simp only [Option.isSome_some, Qt0]; done) | (simp only [UInt64.reduceToNat, UInt32.reduceToNat, UInt8.reduceToNat, List.length_cons, List.length_nil, List.length_append, Int.toNat_natCast] <;> omega)) only [Nat.reduceLT, Nat.reduceLeDiff, Nat.reduceEqDiff, ↓reduceIte, Int.reduceLT, Int.reduceLE, Int.reduceToNat, Int.reduceEq, Int.reduceNe, Nat.reduceAdd, UInt8.reduceOfNat, UInt16.reduceOfNat, UInt32.reduceOfNat, UInt64.reduceOfNat, UInt64.reduceToNat, UInt32.reduceToNat, UInt16.reduceToNat, UInt8.reduceToNat, Int.reduceAdd, Int.reduceSub, Int.reduceMul, Nat.reduceMul, Qp0, Ql0, Qe0, q2, q7, q9, q11, q12, q91, rd_M, rdM_some, mo, k0, k1, k2, k3]
  refine hIs0.out.mono ?_
  rintro v hy ⟨rfl, hyq⟩
  obtain rfl := hyq.symm
  cases hif : isB region n x0
  · have hUV : decide (¬ (0 : Int) = 0) = false := rfl
    simp -dsimp -implicitDefEqProofs (disch := first | omega | assumption | (simp only [Option.isSome_some, Qt0]; done) | (simp only [UInt64.reduceToNat, UInt32.reduceToNat, UInt8.reduceToNat, List.length_cons, List.length_nil, List.length_append, Int.toNat_natCast] <;> omega)) only [Nat.reduceLT, Nat.reduceLeDiff, Nat.reduceEqDiff, ↓reduceIte, Int.reduceLT, Int.reduceLE, Int.reduceToNat, Int.reduceEq, Int.reduceNe, Nat.reduceAdd, UInt8.reduceOfNat, UInt16.reduceOfNat, UInt32.reduceOfNat, UInt64.reduceOfNat, UInt64.reduceToNat, UInt32.reduceToNat, UInt16.reduceToNat, UInt8.reduceToNat, Int.reduceAdd, Int.reduceSub, Int.reduceMul, Nat.reduceMul, Qp0, Ql0, Qe0, q2, q7, q9, q11, q12, q91, hif, rd_M, rdM_some, mo, k0, k1, k2, k3]
    have hUe : (if isB region n x0 = true then u.getD x0.toNat 0 else 0) = 0 := by rw [hif]; rfl
    have hGd := Lib.hid (lgood_any b region n x3 u r2 hu w q mb)
    refine hGd.out.mono ?_
    rintro v g4 ⟨x, hx, hv⟩
    rw [bd_same hrel] at hx
    rcases hv with ⟨rfl, rfl, hyq⟩ | ⟨hx0, be, rfl, hbe, rfl⟩
    · obtain rfl := hyq.symm
      have hL := Lib.hid (rlapsed_any c d region n x3 W r2 hW w _ mc md)
      simp -dsimp -implicitDefEqProofs (disch := first | omega | assumption | (simp only [Option.isSome_some, Qt0]; done) | (simp only [UInt64.reduceToNat, UInt32.reduceToNat, UInt8.reduceToNat, List.length_cons, List.length_nil, List.length_append, Int.toNat_natCast] <;> omega)) only [Nat.reduceLT, Nat.reduceLeDiff, Nat.reduceEqDiff, ↓reduceIte, Int.reduceLT, Int.reduceLE, Int.reduceToNat, Int.reduceEq, Int.reduceNe, Nat.reduceAdd, UInt8.reduceOfNat, UInt16.reduceOfNat, UInt32.reduceOfNat, UInt64.reduceOfNat, UInt64.reduceToNat, UInt32.reduceToNat, UInt16.reduceToNat, UInt8.reduceToNat, Int.reduceAdd, Int.reduceSub, Int.reduceMul, Nat.reduceMul, Qp0, Ql0, Qe0, q2, q7, q9, q11, q12, q91]
      refine (As.place_nil w _).mono ?_
      rintro v hy ⟨rfl, hyq⟩
      obtain rfl := hyq.symm
      simp -dsimp -implicitDefEqProofs (disch := first | omega | assumption | (simp only [Option.isSome_some, Qt0]; done) | (simp only [UInt64.reduceToNat, UInt32.reduceToNat, UInt8.reduceToNat, List.length_cons, List.length_nil, List.length_append, Int.toNat_natCast] <;> omega)) only [Nat.reduceLT, Nat.reduceLeDiff, Nat.reduceEqDiff, ↓reduceIte, Int.reduceLT, Int.reduceLE, Int.reduceToNat, Int.reduceEq, Int.reduceNe, Nat.reduceAdd, UInt8.reduceOfNat, UInt16.reduceOfNat, UInt32.reduceOfNat, UInt64.reduceOfNat, UInt64.reduceToNat, UInt32.reduceToNat, UInt16.reduceToNat, UInt8.reduceToNat, Int.reduceAdd, Int.reduceSub, Int.reduceMul, Nat.reduceMul, Qp0, Ql0, Qe0, q2, q7, q9, q11, q12, q91, rd_M, rdM_some, mo, k0, k1, k2, k3]
      refine hL.out.mono ?_
      rintro v hy ⟨⟨y, hy1, rfl⟩, hyq⟩
      obtain rfl := hyq.symm
      obtain rfl := Lp_one hy1 hx
      simp -dsimp -implicitDefEqProofs (disch := first | omega | assumption | (simp only [Option.isSome_some, Qt0]; done) | (simp only [UInt64.reduceToNat, UInt32.reduceToNat, UInt8.reduceToNat, List.length_cons, List.length_nil, List.length_append, Int.toNat_natCast] <;> omega)) only [Nat.reduceLT, Nat.reduceLeDiff, Nat.reduceEqDiff, ↓reduceIte, Int.reduceLT, Int.reduceLE, Int.reduceToNat, Int.reduceEq, Int.reduceNe, Nat.reduceAdd, UInt8.reduceOfNat, UInt16.reduceOfNat, UInt32.reduceOfNat, UInt64.reduceOfNat, UInt64.reduceToNat, UInt32.reduceToNat, UInt16.reduceToNat, UInt8.reduceToNat, Int.reduceAdd, Int.reduceSub, Int.reduceMul, Nat.reduceMul, Qp0, Ql0, Qe0, q2, q7, q9, q11, q12, q91, rd_M, rdM_some, mo, k0, k1, k2, k3]
      have hUu := luntil_any b region n x0 u r2 hu w _ mb
      rw [hUe] at hUu
      have hUu := Lib.hid hUu
      refine hUu.out.mono ?_
      rintro v hy ⟨rfl, hyq⟩
      obtain rfl := hyq.symm
      simp -dsimp -implicitDefEqProofs (disch := first | omega | assumption | (simp only [Option.isSome_some, Qt0]; done) | (simp only [UInt64.reduceToNat, UInt32.reduceToNat, UInt8.reduceToNat, List.length_cons, List.length_nil, List.length_append, Int.toNat_natCast] <;> omega)) only [Nat.reduceLT, Nat.reduceLeDiff, Nat.reduceEqDiff, ↓reduceIte, Int.reduceLT, Int.reduceLE, Int.reduceToNat, Int.reduceEq, Int.reduceNe, Nat.reduceAdd, UInt8.reduceOfNat, UInt16.reduceOfNat, UInt32.reduceOfNat, UInt64.reduceOfNat, UInt64.reduceToNat, UInt32.reduceToNat, UInt16.reduceToNat, UInt8.reduceToNat, Int.reduceAdd, Int.reduceSub, Int.reduceMul, Nat.reduceMul, Qp0, Ql0, Qe0, q2, q7, q9, q11, q12, q91, hUV]
      exact ⟨m - 1, _, by omega, PH.Le.refl _, i + 1, u, W, by omega, by simp [q2], by simp [q7], by simp [q9], by simp, hST⟩
    · have hIs := is_any 12 w _ _ _ (EV.at (s := leaseT) (a := x) (show EV _ (.code 12) (codeV 12) from rfl) hbe)
      have hn1 : ((Er.wrap leaseT x (.code 12)).num == 12) = true := by simp [Er.num]
      rw [hn1] at hIs
      have hIs := Lib.hid hIs
      have hl4 := (PH.Le.refl q).new be ⟨[str leaseT, .int .i64 x, codeV 12], 3⟩ hbe
      have m4 : (q.new be ⟨[str leaseT, .int .i64 x, codeV 12], 3⟩).m be = some ⟨[str leaseT, .int .i64 x, codeV 12], 3⟩ := by rw [PH.new_m, if_pos rfl]
      generalize q.new be ⟨[str leaseT, .int .i64 x, codeV 12], 3⟩ = g4 at *
      have hP := Lib.hid (As.place_wrap be leaseT x (codeV 12) w hg0 g4 m4)
      have hL := Lib.hid (rlapsed_any c d region n x3 W r2 hW w g4 (hl4.m _ _ mc) (hl4.m _ _ md))
      have mo4 := hl4.m _ _ mo
      have dx : decide (x = 0) = false := decide_eq_false hx0
      have dl : decide (¬ leaseT = [108, 101, 97, 115, 101]) = false := rfl
      have dxx : decide (¬ x = x) = false := by simp
      unfold errV codeV at *
      simp -dsimp -implicitDefEqProofs (disch := first | omega | assumption | (simp only [Option.isSome_some, Qt0]; done) | (simp only [UInt64.reduceToNat, UInt32.reduceToNat, UInt8.reduceToNat, List.length_cons, List.length_nil, List.length_append, Int.toNat_natCast] <;> omega)) only [Nat.reduceLT, Nat.reduceLeDiff, Nat.reduceEqDiff, ↓reduceIte, Int.reduceLT, Int.reduceLE, Int.reduceToNat, Int.reduceEq, Int.reduceNe, Nat.reduceAdd, UInt8.reduceOfNat, UInt16.reduceOfNat, UInt32.reduceOfNat, UInt64.reduceOfNat, UInt64.reduceToNat, UInt32.reduceToNat, UInt16.reduceToNat, UInt8.reduceToNat, Int.reduceAdd, Int.reduceSub, Int.reduceMul, Nat.reduceMul, Qp0, Ql0, Qe0, q2, q7, q9, q11, q12, q91]
      refine hP.out.mono ?_
      rintro v hy ⟨rfl, hyq⟩
      obtain rfl := hyq.symm
      simp -dsimp -implicitDefEqProofs (disch := first | omega | assumption | (simp only [Option.isSome_some, Qt0]; done) | (simp only [UInt64.reduceToNat, UInt32.reduceToNat, UInt8.reduceToNat, List.length_cons, List.length_nil, List.length_append, Int.toNat_natCast] <;> omega)) only [Nat.reduceLT, Nat.reduceLeDiff, Nat.reduceEqDiff, ↓reduceIte, Int.reduceLT, Int.reduceLE, Int.reduceToNat, Int.reduceEq, Int.reduceNe, Nat.reduceAdd, UInt8.reduceOfNat, UInt16.reduceOfNat, UInt32.reduceOfNat, UInt64.reduceOfNat, UInt64.reduceToNat, UInt32.reduceToNat, UInt16.reduceToNat, UInt8.reduceToNat, Int.reduceAdd, Int.reduceSub, Int.reduceMul, Nat.reduceMul, Qp0, Ql0, Qe0, q2, q7, q9, q11, q12, q91, rd_M, rdM_some, mo4, k0, k1, k2, k3]
      refine hL.out.mono ?_
      rintro v hy ⟨⟨y, hy1, rfl⟩, hyq⟩
      obtain rfl := hyq.symm
      obtain rfl := Lp_one hy1 hx
      simp -dsimp -implicitDefEqProofs (disch := first | omega | assumption | (simp only [Option.isSome_some, Qt0]; done) | (simp only [UInt64.reduceToNat, UInt32.reduceToNat, UInt8.reduceToNat, List.length_cons, List.length_nil, List.length_append, Int.toNat_natCast] <;> omega)) only [Nat.reduceLT, Nat.reduceLeDiff, Nat.reduceEqDiff, ↓reduceIte, Int.reduceLT, Int.reduceLE, Int.reduceToNat, Int.reduceEq, Int.reduceNe, Nat.reduceAdd, UInt8.reduceOfNat, UInt16.reduceOfNat, UInt32.reduceOfNat, UInt64.reduceOfNat, UInt64.reduceToNat, UInt32.reduceToNat, UInt16.reduceToNat, UInt8.reduceToNat, Int.reduceAdd, Int.reduceSub, Int.reduceMul, Nat.reduceMul, Qp0, Ql0, Qe0, q2, q7, q9, q11, q12, q91, rd_M, rdM_some, mo4, k0, k1, k2, k3]
      have hUu := luntil_any b region n x0 u r2 hu w _ (hl4.m _ _ mb)
      rw [hUe] at hUu
      have hUu := Lib.hid hUu
      refine hUu.out.mono ?_
      rintro v hy ⟨rfl, hyq⟩
      obtain rfl := hyq.symm
      simp -dsimp -implicitDefEqProofs (disch := first | omega | assumption | (simp only [Option.isSome_some, Qt0]; done) | (simp only [UInt64.reduceToNat, UInt32.reduceToNat, UInt8.reduceToNat, List.length_cons, List.length_nil, List.length_append, Int.toNat_natCast] <;> omega)) only [Nat.reduceLT, Nat.reduceLeDiff, Nat.reduceEqDiff, ↓reduceIte, Int.reduceLT, Int.reduceLE, Int.reduceToNat, Int.reduceEq, Int.reduceNe, Nat.reduceAdd, UInt8.reduceOfNat, UInt16.reduceOfNat, UInt32.reduceOfNat, UInt64.reduceOfNat, UInt64.reduceToNat, UInt32.reduceToNat, UInt16.reduceToNat, UInt8.reduceToNat, Int.reduceAdd, Int.reduceSub, Int.reduceMul, Nat.reduceMul, Qp0, Ql0, Qe0, q2, q7, q9, q11, q12, q91, hUV, dx]
      refine hIs.out.mono ?_
      rintro v hy ⟨rfl, hyq⟩
      obtain rfl := hyq.symm
      simp -dsimp -implicitDefEqProofs (disch := first | omega | assumption | (simp only [Option.isSome_some, Qt0]; done) | (simp only [UInt64.reduceToNat, UInt32.reduceToNat, UInt8.reduceToNat, List.length_cons, List.length_nil, List.length_append, Int.toNat_natCast] <;> omega)) only [Nat.reduceLT, Nat.reduceLeDiff, Nat.reduceEqDiff, ↓reduceIte, Int.reduceLT, Int.reduceLE, Int.reduceToNat, Int.reduceEq, Int.reduceNe, Nat.reduceAdd, UInt8.reduceOfNat, UInt16.reduceOfNat, UInt32.reduceOfNat, UInt64.reduceOfNat, UInt64.reduceToNat, UInt32.reduceToNat, UInt16.reduceToNat, UInt8.reduceToNat, Int.reduceAdd, Int.reduceSub, Int.reduceMul, Nat.reduceMul, Qp0, Ql0, Qe0, q2, q7, q9, q11, q12, q91, hUV, dx, dl, dxx]
      exact ⟨m - 1, _, by omega, PH.Le.refl _, i + 1, u, W, by omega, by simp [q2], by simp [q7], by simp [q9], by simp, ⟨hu, hW, hrel, hl4.m _ _ mb, hl4.m _ _ mc, hl4.m _ _ md, hle.trans hl4⟩⟩
  · obtain ⟨i1, i2, i3⟩ := isB_iff.1 hif
    obtain ⟨k, rfl⟩ := Int.eq_ofNat_of_zero_le (show 0 ≤ x0 by omega)
    have hT : ((k : Int) - 1).toNat = k - 1 := by omega
    have hgetW := iz_get (u := W) (k := k - 1) (by omega)
    rw [← hrel k hif] at hgetW
    have g2w : (wsL region n d W.length)[2]? = some (.slice (some ⟨d, 0, none⟩) W.length W.length) := rfl
    obtain ⟨U, hUe⟩ : ∃ U, u.getD k 0 = U := ⟨_, rfl⟩
    rw [hUe] at hgetW
    have hUV : decide (¬ U = U) = false := by simp
    simp -dsimp -implicitDefEqProofs (disch := first | omega | assumption | (simp only [Option.isSome_some, Qt0]; done) | (simp only [UInt64.reduceToNat, UInt32.reduceToNat, UInt8.reduceToNat, List.length_cons, List.length_nil, List.length_append, Int.toNat_natCast] <;> omega)) only [Nat.reduceLT, Nat.reduceLeDiff, Nat.reduceEqDiff, ↓reduceIte, Int.reduceLT, Int.reduceLE, Int.reduceToNat, Int.reduceEq, Int.reduceNe, Nat.reduceAdd, UInt8.reduceOfNat, UInt16.reduceOfNat, UInt32.reduceOfNat, UInt64.reduceOfNat, UInt64.reduceToNat, UInt32.reduceToNat, UInt16.reduceToNat, UInt8.reduceToNat, Int.reduceAdd, Int.reduceSub, Int.reduceMul, Nat.reduceMul, Qp0, Ql0, Qe0, q2, q7, q9, q11, q12, q91, hif]
    refine PW_plan [0, 1, 2, 3, 4, 5, 6, 7, 8, 9] q (by kernel_rfl) (by decide +kernel) (by kernel_rfl) (by kernel_rfl) (by kernel_rfl) (fun c f h hq => by simp only [thenC_panic, thenK_panic, inBlk_panic, thenN_panic, vcRet_panic] at hq) (PH.Le.refl _).sub ?_
    simp -dsimp -implicitDefEqProofs (disch := first | omega | assumption | (simp only [Option.isSome_some, Qt0]; done) | (simp only [UInt64.reduceToNat, UInt32.reduceToNat, UInt8.reduceToNat, List.length_cons, List.length_nil, List.length_append, Int.toNat_natCast] <;> omega)) only [Nat.reduceLT, Nat.reduceLeDiff, Nat.reduceEqDiff, ↓reduceIte, Int.reduceLT, Int.reduceLE, Int.reduceToNat, Int.reduceEq, Int.reduceNe, Nat.reduceAdd, UInt8.reduceOfNat, UInt16.reduceOfNat, UInt32.reduceOfNat, UInt64.reduceOfNat, UInt64.reduceToNat, UInt32.reduceToNat, UInt16.reduceToNat, UInt8.reduceToNat, Int.reduceAdd, Int.reduceSub, Int.reduceMul, Nat.reduceMul, Qp0, Ql0, Qe0, q2, q7, q9, q11, q12, q91, rd_M, rdM_some, mo, k0, k1, k2, k3, mc, md, g2w, hT, hgetW]
    have hUe : (if isB region n (k : Int) = true then u.getD (k : Int).toNat 0 else 0) = U := by rw [hif, if_pos rfl, Int.toNat_natCast]; exact hUe
    have hGd := Lib.hid (lgood_any b region n x3 u r2 hu w q mb)
    refine hGd.out.mono ?_
    rintro v g4 ⟨x, hx, hv⟩
    rw [bd_same hrel] at hx
    rcases hv with ⟨rfl, rfl, hyq⟩ | ⟨hx0, be, rfl, hbe, rfl⟩
    · obtain rfl := hyq.symm
      have hL := Lib.hid (rlapsed_any c d region n x3 W r2 hW w _ mc md)
      simp -dsimp -implicitDefEqProofs (disch := first | omega | assumption | (simp only [Option.isSome_some, Qt0]; done) | (simp only [UInt64.reduceToNat, UInt32.reduceToNat, UInt8.reduceToNat, List.length_cons, List.length_nil, List.length_append, Int.toNat_natCast] <;> omega)) only [Nat.reduceLT, Nat.reduceLeDiff, Nat.reduceEqDiff, ↓reduceIte, Int.reduceLT, Int.reduceLE, Int.reduceToNat, Int.reduceEq, Int.reduceNe, Nat.reduceAdd, UInt8.reduceOfNat, UInt16.reduceOfNat, UInt32.reduceOfNat, UInt64.reduceOfNat, UInt64.reduceToNat, UInt32.reduceToNat, UInt16.reduceToNat, UInt8.reduceToNat, Int.reduceAdd, Int.reduceSub, Int.reduceMul, Nat.reduceMul, Qp0, Ql0, Qe0, q2, q7, q9, q11, q12, q91]
      refine (As.place_nil w _).mono ?_
      rintro v hy ⟨rfl, hyq⟩
      obtain rfl := hyq.symm
      simp -dsimp -implicitDefEqProofs (disch := first | omega | assumption | (simp only [Option.isSome_some, Qt0]; done) | (simp only [UInt64.reduceToNat, UInt32.reduceToNat, UInt8.reduceToNat, List.length_cons, List.length_nil, List.length_append, Int.toNat_natCast] <;> omega)) only [Nat.reduceLT, Nat.reduceLeDiff, Nat.reduceEqDiff, ↓reduceIte, Int.reduceLT, Int.reduceLE, Int.reduceToNat, Int.reduceEq, Int.reduceNe, Nat.reduceAdd, UInt8.reduceOfNat, UInt16.reduceOfNat, UInt32.reduceOfNat, UInt64.reduceOfNat, UInt64.reduceToNat, UInt32.reduceToNat, UInt16.reduceToNat, UInt8.reduceToNat, Int.reduceAdd, Int.reduceSub, Int.reduceMul, Nat.reduceMul, Qp0, Ql0, Qe0, q2, q7, q9, q11, q12, q91, rd_M, rdM_some, mo, k0, k1, k2, k3]
      refine hL.out.mono ?_
      rintro v hy ⟨⟨y, hy1, rfl⟩, hyq⟩
      obtain rfl := hyq.symm
      obtain rfl := Lp_one hy1 hx
      simp -dsimp -implicitDefEqProofs (disch := first | omega | assumption | (simp only [Option.isSome_some, Qt0]; done) | (simp only [UInt64.reduceToNat, UInt32.reduceToNat, UInt8.reduceToNat, List.length_cons, List.length_nil, List.length_append, Int.toNat_natCast] <;> omega)) only [Nat.reduceLT, Nat.reduceLeDiff, Nat.reduceEqDiff, ↓reduceIte, Int.reduceLT, Int.reduceLE, Int.reduceToNat, Int.reduceEq, Int.reduceNe, Nat.reduceAdd, UInt8.reduceOfNat, UInt16.reduceOfNat, UInt32.reduceOfNat, UInt64.reduceOfNat, UInt64.reduceToNat, UInt32.reduceToNat, UInt16.reduceToNat, UInt8.reduceToNat, Int.reduceAdd, Int.reduceSub, Int.reduceMul, Nat.reduceMul, Qp0, Ql0, Qe0, q2, q7, q9, q11, q12, q91, rd_M, rdM_some, mo, k0, k1, k2, k3]
      have hUu := luntil_any b region n (k : Int) u r2 hu w _ mb
      rw [hUe] at hUu
      have hUu := Lib.hid hUu
      refine hUu.out.mono ?_
      rintro v hy ⟨rfl, hyq⟩
      obtain rfl := hyq.symm
      simp -dsimp -implicitDefEqProofs (disch := first | omega | assumption | (simp only [Option.isSome_some, Qt0]; done) | (simp only [UInt64.reduceToNat, UInt32.reduceToNat, UInt8.reduceToNat, List.length_cons, List.length_nil, List.length_append, Int.toNat_natCast] <;> omega)) only [Nat.reduceLT, Nat.reduceLeDiff, Nat.reduceEqDiff, ↓reduceIte, Int.reduceLT, Int.reduceLE, Int.reduceToNat, Int.reduceEq, Int.reduceNe, Nat.reduceAdd, UInt8.reduceOfNat, UInt16.reduceOfNat, UInt32.reduceOfNat, UInt64.reduceOfNat, UInt64.reduceToNat, UInt32.reduceToNat, UInt16.reduceToNat, UInt8.reduceToNat, Int.reduceAdd, Int.reduceSub, Int.reduceMul, Nat.reduceMul, Qp0, Ql0, Qe0, q2, q7, q9, q11, q12, q91, hUV]
      exact ⟨m - 1, _, by omega, PH.Le.refl _, i + 1, u, W, by omega, by simp [q2], by simp [q7], by simp [q9], by simp, hST⟩
    · have hIs := is_any 12 w _ _ _ (EV.at (s := leaseT) (a := x) (show EV _ (.code 12) (codeV 12) from rfl) hbe)
      have hn1 : ((Er.wrap leaseT x (.code 12)).num == 12) = true := by simp [Er.num]
      rw [hn1] at hIs
      have hIs := Lib.hid hIs
      have hl4 := (PH.Le.refl q).new be ⟨[str leaseT, .int .i64 x, codeV 12], 3⟩ hbe
      have m4 : (q.new be ⟨[str leaseT, .int .i64 x, codeV 12], 3⟩).m be = some ⟨[str leaseT, .int .i64 x, codeV 12], 3⟩ := by rw [PH.new_m, if_pos rfl]
      generalize q.new be ⟨[str leaseT, .int .i64 x, codeV 12], 3⟩ = g4 at *
      have hP := Lib.hid (As.place_wrap be leaseT x (codeV 12) w hg0 g4 m4)
      have hL := Lib.hid (rlapsed_any c d region n x3 W r2 hW w g4 (hl4.m _ _ mc) (hl4.m _ _ md))
      have mo4 := hl4.m _ _ mo
      have dx : decide (x = 0) = false := decide_eq_false hx0
      have dl : decide (¬ leaseT = [108, 101, 97, 115, 101]) = false := rfl
      have dxx : decide (¬ x = x) = false := by simp
      unfold errV codeV at *
      simp -dsimp -implicitDefEqProofs (disch := first | omega | assumption | (simp only [Option.isSome_some, Qt0]; done) | (simp only [UInt64.reduceToNat, UInt32.reduceToNat, UInt8.reduceToNat, List.length_cons, List.length_nil, List.length_append, Int.toNat_natCast] <;> omega)) only [Nat.reduceLT, Nat.reduceLeDiff, Nat.reduceEqDiff, ↓reduceIte, Int.reduceLT, Int.reduceLE, Int.reduceToNat, Int.reduceEq, Int.reduceNe, Nat.reduceAdd, UInt8.reduceOfNat, UInt16.reduceOfNat, UInt32.reduceOfNat, UInt64.reduceOfNat, UInt64.reduceToNat, UInt32.reduceToNat, UInt16.reduceToNat, UInt8.reduceToNat, Int.reduceAdd, Int.reduceSub, Int.reduceMul, Nat.reduceMul, Qp0, Ql0, Qe0, q2, q7, q9, q11, q12, q91]
      refine hP.out.mono ?_
      rintro v hy ⟨rfl, hyq⟩
      obtain rfl := hyq.symm
      simp -dsimp -implicitDefEqProofs (disch := first | omega | assumption | (simp only [Option.isSome_some, Qt0]; done) | (simp only [UInt64.reduceToNat, UInt32.reduceToNat, UInt8.reduceToNat, List.length_cons, List.length_nil, List.length_append, Int.toNat_natCast] <;> omega)) only [Nat.reduceLT, Nat.reduceLeDiff, Nat.reduceEqDiff, ↓reduceIte, Int.reduceLT, Int.reduceLE, Int.reduceToNat, Int.reduceEq, Int.reduceNe, Nat.reduceAdd, UInt8.reduceOfNat, UInt16.reduceOfNat, UInt32.reduceOfNat, UInt64.reduceOfNat, UInt64.reduceToNat, UInt32.reduceToNat, UInt16.reduceToNat, UInt8.reduceToNat, Int.reduceAdd, Int.reduceSub, Int.reduceMul, Nat.reduceMul, Qp0, Ql0, Qe0, q2, q7, q9, q11, q12, q91, rd_M, rdM_some, mo4, k0, k1, k2, k3]
      refine hL.out.mono ?_
      rintro v hy ⟨⟨y, hy1, rfl⟩, hyq⟩
      obtain rfl := hyq.symm
      obtain rfl := Lp_one hy1 hx
      simp -dsimp -implicitDefEqProofs (disch := first | omega | assumption | (simp only [Option.isSome_some, Qt0]; done) | (simp only [UInt64.reduceToNat, UInt32.reduceToNat, UInt8.reduceToNat, List.length_cons, List.length_nil, List.length_append, Int.toNat_natCast] <;> omega)) only [Nat.reduceLT, Nat.reduceLeDiff, Nat.reduceEqDiff, ↓reduceIte, Int.reduceLT, Int.reduceLE, Int.reduceToNat, Int.reduceEq, Int.reduceNe, Nat.reduceAdd, UInt8.reduceOfNat, UInt16.reduceOfNat, UInt32.reduceOfNat, UInt64.reduceOfNat, UInt64.reduceToNat, UInt32.reduceToNat, UInt16.reduceToNat, UInt8.reduceToNat, Int.reduceAdd, Int.reduceSub, Int.reduceMul, Nat.reduceMul, Qp0, Ql0, Qe0, q2, q7, q9, q11, q12, q91, rd_M, rdM_some, mo4, k0, k1, k2, k3]
      have hUu := luntil_any b region n (k : Int) u r2 hu w _ (hl4.m _ _ mb)
      rw [hUe] at hUu
      have hUu := Lib.hid hUu
      refine hUu.out.mono ?_
      rintro v hy ⟨rfl, hyq⟩
      obtain rfl := hyq.symm
      simp -dsimp -implicitDefEqProofs (disch := first | omega | assumption | (simp only [Option.isSome_some, Qt0]; done) | (simp only [UInt64.reduceToNat, UInt32.reduceToNat, UInt8.reduceToNat, List.length_cons, List.length_nil, List.length_append, Int.toNat_natCast] <;> omega)) only [Nat.reduceLT, Nat.reduceLeDiff, Nat.reduceEqDiff, ↓reduceIte, Int.reduceLT, Int.reduceLE, Int.reduceToNat, Int.reduceEq, Int.reduceNe, Nat.reduceAdd, UInt8.reduceOfNat, UInt16.reduceOfNat, UInt32.reduceOfNat, UInt64.reduceOfNat, UInt64.reduceToNat, UInt32.reduceToNat, UInt16.reduceToNat, UInt8.reduceToNat, Int.reduceAdd, Int.reduceSub, Int.reduceMul, Nat.reduceMul, Qp0, Ql0, Qe0, q2, q7, q9, q11, q12, q91, hUV, dx]
      refine hIs.out.mono ?_
      rintro v hy ⟨rfl, hyq⟩
      obtain rfl := hyq.symm
      simp -dsimp -implicitDefEqProofs (disch := first | omega | assumption | (simp only [Option.isSome_some, Qt0]; done) | (simp only [UInt64.reduceToNat, UInt32.reduceToNat, UInt8.reduceToNat, List.length_cons, List.length_nil, List.length_append, Int.toNat_natCast] <;> omega)) only [Nat.reduceLT, Nat.reduceLeDiff, Nat.reduceEqDiff, ↓reduceIte, Int.reduceLT, Int.reduceLE, Int.reduceToNat, Int.reduceEq, Int.reduceNe, Nat.reduceAdd, UInt8.reduceOfNat, UInt16.reduceOfNat, UInt32.reduceOfNat, UInt64.reduceOfNat, UInt64.reduceToNat, UInt32.reduceToNat, UInt16.reduceToNat, UInt8.reduceToNat, Int.reduceAdd, Int.reduceSub, Int.reduceMul, Nat.reduceMul, Qp0, Ql0, Qe0, q2, q7, q9, q11, q12, q91, hUV, dx, dl, dxx]
      exact ⟨m - 1, _, by omega, PH.Le.refl _, i + 1, u, W, by omega, by simp [q2], by simp [q7], by simp [q9], by simp, ⟨hu, hW, hrel, hl4.m _ _ mb, hl4.m _ _ mc, hl4.m _ _ md, hle.trans hl4⟩⟩
set_option maxRecDepth 100000 in
theorem liftedLeasePlays (os : Os) (started : os.Started) (H : Type) (enc : TypeId × Value → H) :
    ReturnsInHanded {} Tryd.checked os 3 .any (fun w args => (Rows.leasePlaysSpec.pre enc Tryd.prog Tryd.f3 [] false w args ∧ laidMetH Tryd.prog Door.laid w) ∧ sizedMet enc Tryd.prog Tryd.f3 (OpenSpec.ofChange Rows.leasePlaysSpec) false w args) (Rows.leasePlaysSpec.post enc Tryd.prog Tryd.f3 false true false false) := by
  refine returnsInHanded_of_change_and (C := Tryd.checked) (X := fun w _ => laidMetH Tryd.prog Door.laid w) (fun _ _ _ hh h => h.of_heap hh) own started (by kernel_rfl) Tryd.func3
    (ChangeSpec.witness_at (enc := enc) (C := Tryd.checked) (os := os) (X := fun w _ => laidMetH Tryd.prog Door.laid w) false (Door.laidWorld os) #[.int .i64 0, .int .i64 0, .slice none 0 0] 8 rfl (by kernel_rfl) (by kernel_rfl) (by kernel_rfl) (by kernel_rfl) (by kernel_rfl) (Door.laidWorld_met os _)) ?_
  intro W base args ds gs before hval0 hW _ hsz0 hL _
  have hsz : (DataW.weightsEach Tryd.prog (Tryd.f3.params.toList ++ Rows.leasePlaysSpec.plain.varTypes Tryd.prog) (ds ++ gs)).all (· ≤ reachBytes) = true := hsz0
  have hval : ∀ (j : Nat) t v, Tryd.f3.params[j]? = some t → args[j]? = some v → Value.okWide Tryd.prog W .any base t v := hval0
  have hW' := hW
  obtain ⟨p, q, hA0, hV, rfl, _, _⟩ := hW
  have hA : DataW.TrodAll enc Tryd.prog W 0 (fun _ => true) true Tryd.f3.params.toList args.toList ds p := hA0
  rw [Tryd.params3] at hA hval hsz
  obtain ⟨v0, v1, v2, d0, d1, d2, p0, p1, p2, rfl, rfl, rfl, h0, h1, h2⟩ := trodAll_three hA
  obtain ⟨rfl, _⟩ := trodVars_none hV
  obtain ⟨a0, rfl, rfl, rfl, w0⟩ := open_int Tryd.underlying3 (hval 0 _ v0 rfl rfl) h0
  obtain ⟨a1, rfl, rfl, rfl, w1⟩ := open_int Tryd.underlying3 (hval 1 _ v1 rfl rfl) h1
  have hC2 : Tryd.prog.cellsOf 34 = 4 := by kernel_rfl
  obtain ⟨A2, n2, c2, xs2, rfl, hnc2, hc2, hr2, hd2, hall2⟩ := open_rd Tryd.underlying22 (by rw [hC2]; omega) (hval 2 _ v2 rfl rfl) h2
  obtain ⟨z2, rfl, hw2⟩ := rd_arr_ints (k := .i64) Tryd.underlying34 Tryd.underlying3 hC2 (by kernel_rfl) hr2.1 (by omega) hall2
  rw [hC2] at hr2
  have hreach2 : n2 ≤ 140737488351232 := by
    rcases hd2 with rfl | ⟨el, sp, rfl, hlen⟩
    · omega
    · have := sized_slice hsz (j := 2) (t := 22) (e := 34) rfl rfl Tryd.underlying22
      rw [show Tryd.prog.bytesOf 34 = 32 from by kernel_rfl] at this
      simp only [reachBytes] at this
      omega
  refine (walk_LeasePlays a0 a1 A2 n2 c2 z2 W w0 w1 hreach2 hnc2 hr2 hw2 (Door.handle_of_laid hL)).mono fun en W' ⟨he, hb⟩ => ?_
  subst he
  exact ⟨_, rfl, law_post (tb := 4) laidOut hW' rfl rfl rfl rfl Tryd.underlying4 (by intro t ht; revert t; exact of_decide_eq_true (by kernel_rfl)) (by kernel_rfl) hb⟩

theorem bareLeasePlays : Rows.LeasePlaysSaid :=
  OpenClaim.holds_of_wide 3 Tryd.f3 rfl rfl rfl rfl rfl rfl rfl ⟨rfl, rfl, rfl, rfl, rfl⟩ rfl rfl rfl rfl rfl (by kernel_rfl) Tryd.func3 (by kernel_rfl)
    (of_decide_eq_true (by kernel_rfl)) (by unfold Func.isWrapper; first | (rw [if_pos (by decide +kernel)]; kernel_rfl) | (rw [if_neg (by decide +kernel)]; exact ⟨rfl, rfl⟩))
    (fun os started H enc _ => liftedLeasePlays os started H enc)
set_option maxRecDepth 100000 in
theorem provedLeasePlays : Rows.LeasePlaysCardSaid :=
  Claim7.holds_tied_plain_at .later [] [.handle] true _ true
    bareLeasePlays (fun _ h => by cases h) (by kernel_rfl) (fun _ h => by cases h) leasePlays_row_tie rfl ⟨rfl, rfl⟩ (by kernel_rfl) rfl
    (fun f fn hf hfn => by
      obtain rfl : f = 3 := Option.some.inj ((show Tryd.prog.funcNamed "sojourn/sojournlaw22.LeasePlays" = some 3 by kernel_rfl).symm.trans hf) |>.symm
      obtain rfl : fn = Tryd.f3 := (Option.some.inj (Tryd.func3.symm.trans hfn)).symm
      exact ⟨by kernel_rfl, fun j t ht => by
        rw [Tryd.params3] at ht
        rcases j with _ | _ | _ | j <;> first | (simp at ht; done) | (simp at ht; subst ht; kernel_rfl)⟩)
    (by kernel_rfl)
#print axioms provedLeasePlays


end Go.Proofs.YtadbaohcniggmaaDoor.LsP
