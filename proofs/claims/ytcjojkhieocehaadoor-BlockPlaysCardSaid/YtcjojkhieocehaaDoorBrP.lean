/- BlockPlays: whatever is asked of a device, whenever its power goes, it answers and has what the document says. No condition. -/
import Derived.Test.YtcjojkhieocehaaDoorBr6
import Derived.Test.YtcjojkhieocehaaDoorBr7
import Derived.Test.YtcjojkhieocehaaDoorBk6
import Derived.Test.YtcjojkhieocehaaDoorPar
import Derived.Test.YtcjojkhieocehaaDoorPq
import Derived.Test.YtcjojkhieocehaaDoorBase
import Derived.Test.YtcjojkhieocehaaDoorBase2
import Derived.Test.YtcjojkhieocehaaDoorChecked
import Derived.Test.YtcjojkhieocehaaDoorDoor
namespace Go.Proofs.YtcjojkhieocehaaDoor.BrP
set_option linter.unusedVariables false
set_option linter.unusedSimpArgs false
open Go.ChangeShapes Go.WideShapes Go.ChangeAt Go.RowKit Base Px
set_option maxRecDepth 20000 in
set_option maxHeartbeats 4000000 in
theorem walk_BlockPlays (room : Int) (A_script : Option Addr) (c_script : Nat) (z_script : List On) (w : World) (hw_room : (Lit.int .i64 room).wf = true) (hc_script : z_script.length ≤ c_script) (hr_script : ∀ h, Rv w h A_script (opsL z_script)) (hw_script : ∀ p ∈ z_script, p.2.2.1 ≤ 9223372036854775807) (hg : w.cell? ⟨0, 0, none⟩ = some (rtV 26)) : Calls Tryd.prog 3 #[.int .i64 room, .slice A_script z_script.length c_script] w fun e w' => e = .returned (.bool true) ∧ Below w.heap.size w w' := by
  refine law_calls (args := [.int .i64 room, .slice A_script z_script.length c_script]) (Calls_body Tryd.func3 rfl _ Tryd.ntmps3 (by kernel_rfl) (by kernel_rfl) _ Tryd.results3 ?_ w (Sim.empty w))
  have hA := Lib.hid (@awake_any w (PH.empty w))
  simp -dsimp -implicitDefEqProofs (disch := first | omega | assumption | (simp only [Option.isSome_some, Qt0]; done) | (simp only [UInt64.reduceToNat, UInt32.reduceToNat, UInt8.reduceToNat, List.length_cons, List.length_nil, List.length_append, Int.toNat_natCast] <;> omega) | fail) only [Nat.reduceLT, Nat.reduceLeDiff, Nat.reduceEqDiff, ↓reduceIte, Int.reduceLT, Int.reduceLE, Int.reduceToNat, Int.reduceEq, Int.reduceNe, Nat.reduceAdd, UInt8.reduceOfNat, UInt16.reduceOfNat, UInt32.reduceOfNat, UInt64.reduceOfNat, UInt64.reduceToNat, UInt32.reduceToNat, UInt16.reduceToNat, UInt8.reduceToNat, Int.reduceAdd, Int.reduceSub, Int.reduceMul, Nat.reduceMul, Qp0, Ql0, Qe0]
  refine hA.out.mono ?_
  rintro v hq ⟨rfl, hz⟩
  obtain rfl := hz.symm
  simp -dsimp -implicitDefEqProofs (disch := first | omega | assumption | (simp only [Option.isSome_some, Qt0]; done) | (simp only [UInt64.reduceToNat, UInt32.reduceToNat, UInt8.reduceToNat, List.length_cons, List.length_nil, List.length_append, Int.toNat_natCast] <;> omega) | fail) only [Nat.reduceLT, Nat.reduceLeDiff, Nat.reduceEqDiff, ↓reduceIte, Int.reduceLT, Int.reduceLE, Int.reduceToNat, Int.reduceEq, Int.reduceNe, Nat.reduceAdd, UInt8.reduceOfNat, UInt16.reduceOfNat, UInt32.reduceOfNat, UInt64.reduceOfNat, UInt64.reduceToNat, UInt32.reduceToNat, UInt16.reduceToNat, UInt8.reduceToNat, Int.reduceAdd, Int.reduceSub, Int.reduceMul, Nat.reduceMul, Qp0, Ql0, Qe0]
  by_cases hbad : room < 0 ∨ 1048576 < room
  · have hN := Lib.hid (new_no w (PH.empty w) room hbad)
    refine hN.out.mono ?_
    rintro v h1 ⟨u, rfl, he, hl1⟩
    have hR := Lib.hid (rnew_no w h1 room hbad)
    have hI := is_any 1 w h1 _ u he
    rw [show ((Er.wrap blockT 0 (.code 1)).num == 1) = true from rfl] at hI
    have hI := Lib.hid hI
    obtain ⟨t, x, rfl⟩ := he.held
    simp -dsimp -implicitDefEqProofs (disch := first | omega | assumption | (simp only [Option.isSome_some, Qt0]; done) | (simp only [UInt64.reduceToNat, UInt32.reduceToNat, UInt8.reduceToNat, List.length_cons, List.length_nil, List.length_append, Int.toNat_natCast] <;> omega) | fail) only [Nat.reduceLT, Nat.reduceLeDiff, Nat.reduceEqDiff, ↓reduceIte, Int.reduceLT, Int.reduceLE, Int.reduceToNat, Int.reduceEq, Int.reduceNe, Nat.reduceAdd, UInt8.reduceOfNat, UInt16.reduceOfNat, UInt32.reduceOfNat, UInt64.reduceOfNat, UInt64.reduceToNat, UInt32.reduceToNat, UInt16.reduceToNat, UInt8.reduceToNat, Int.reduceAdd, Int.reduceSub, Int.reduceMul, Nat.reduceMul, Qp0, Ql0, Qe0]
    refine hR.out.mono ?_
    rintro v hq ⟨rfl, hz⟩
    obtain rfl := hz.symm
    simp -dsimp -implicitDefEqProofs (disch := first | omega | assumption | (simp only [Option.isSome_some, Qt0]; done) | (simp only [UInt64.reduceToNat, UInt32.reduceToNat, UInt8.reduceToNat, List.length_cons, List.length_nil, List.length_append, Int.toNat_natCast] <;> omega) | fail) only [Nat.reduceLT, Nat.reduceLeDiff, Nat.reduceEqDiff, ↓reduceIte, Int.reduceLT, Int.reduceLE, Int.reduceToNat, Int.reduceEq, Int.reduceNe, Nat.reduceAdd, UInt8.reduceOfNat, UInt16.reduceOfNat, UInt32.reduceOfNat, UInt64.reduceOfNat, UInt64.reduceToNat, UInt32.reduceToNat, UInt16.reduceToNat, UInt8.reduceToNat, Int.reduceAdd, Int.reduceSub, Int.reduceMul, Nat.reduceMul, Qp0, Ql0, Qe0]
    unfold codeV at hI
    refine hI.out.mono ?_
    rintro v hq ⟨rfl, hz⟩
    obtain rfl := hz.symm
    simp -dsimp -implicitDefEqProofs (disch := first | omega | assumption | (simp only [Option.isSome_some, Qt0]; done) | (simp only [UInt64.reduceToNat, UInt32.reduceToNat, UInt8.reduceToNat, List.length_cons, List.length_nil, List.length_append, Int.toNat_natCast] <;> omega) | fail) only [Nat.reduceLT, Nat.reduceLeDiff, Nat.reduceEqDiff, ↓reduceIte, Int.reduceLT, Int.reduceLE, Int.reduceToNat, Int.reduceEq, Int.reduceNe, Nat.reduceAdd, UInt8.reduceOfNat, UInt16.reduceOfNat, UInt32.reduceOfNat, UInt64.reduceOfNat, UInt64.reduceToNat, UInt32.reduceToNat, UInt16.reduceToNat, UInt8.reduceToNat, Int.reduceAdd, Int.reduceSub, Int.reduceMul, Nat.reduceMul, Qp0, Ql0, Qe0]
    exact ⟨_, hl1, by simp⟩
  have hN := Lib.hid (new_ok w (PH.empty w) room (by omega))
  refine hN.out.mono ?_
  rintro v h1 ⟨db, rfl, hd1⟩
  have hR := Lib.hid (rnew_ok w h1 room (by omega))
  simp -dsimp -implicitDefEqProofs (disch := first | omega | assumption | (simp only [Option.isSome_some, Qt0]; done) | (simp only [UInt64.reduceToNat, UInt32.reduceToNat, UInt8.reduceToNat, List.length_cons, List.length_nil, List.length_append, Int.toNat_natCast] <;> omega) | fail) only [Nat.reduceLT, Nat.reduceLeDiff, Nat.reduceEqDiff, ↓reduceIte, Int.reduceLT, Int.reduceLE, Int.reduceToNat, Int.reduceEq, Int.reduceNe, Nat.reduceAdd, UInt8.reduceOfNat, UInt16.reduceOfNat, UInt32.reduceOfNat, UInt64.reduceOfNat, UInt64.reduceToNat, UInt32.reduceToNat, UInt16.reduceToNat, UInt8.reduceToNat, Int.reduceAdd, Int.reduceSub, Int.reduceMul, Nat.reduceMul, Qp0, Ql0, Qe0]
  refine hR.out.mono ?_
  rintro v h2 ⟨c, hc, rfl, rfl⟩
  have hd2 := hd1.both hc ⟨vK ⟨[], 0, room, -1, false⟩, 5⟩
  obtain ⟨g, hgd⟩ : ∃ g, (PH.empty w).new c ⟨vK ⟨[], 0, room, -1, false⟩, 5⟩ = g := ⟨_, rfl⟩
  have hgc : g.m c = some ⟨vK ⟨[], 0, room, -1, false⟩, 5⟩ := by rw [← hgd, PH.new_m, if_pos rfl]
  have hgl : PH.Le (PH.empty w) g := by rw [← hgd]; exact (PH.Le.refl _).new _ _ (Nat.le_trans hd1.top hc)
  have hgt : (PH.empty w).m c = none := (PH.empty w).gone (Nat.le_trans hd1.top hc)
  rw [hgd] at hd2
  have gd : Good ⟨[], 0, room, -1, false⟩ := ⟨by simp, by simp, by simp, by simp only; omega, by simp only; omega, by simp⟩
  generalize (⟨[], 0, room, -1, false⟩ : Dk) = d0 at *
  generalize h1.new c ⟨vK d0, 5⟩ = h3 at *
  have hG := Lib.hid (great_any w h3 A_script c_script z_script (hr_script h3) hc_script)
  simp -dsimp -implicitDefEqProofs (disch := first | omega | assumption | (simp only [Option.isSome_some, Qt0]; done) | (simp only [UInt64.reduceToNat, UInt32.reduceToNat, UInt8.reduceToNat, List.length_cons, List.length_nil, List.length_append, Int.toNat_natCast] <;> omega) | fail) only [Nat.reduceLT, Nat.reduceLeDiff, Nat.reduceEqDiff, ↓reduceIte, Int.reduceLT, Int.reduceLE, Int.reduceToNat, Int.reduceEq, Int.reduceNe, Nat.reduceAdd, UInt8.reduceOfNat, UInt16.reduceOfNat, UInt32.reduceOfNat, UInt64.reduceOfNat, UInt64.reduceToNat, UInt32.reduceToNat, UInt16.reduceToNat, UInt8.reduceToNat, Int.reduceAdd, Int.reduceSub, Int.reduceMul, Nat.reduceMul, Qp0, Ql0, Qe0]
  refine hG.out.mono ?_
  rintro v hq ⟨hgr, hz⟩
  obtain rfl := hz.symm
  rcases hgr with rfl | ⟨rfl, hn3, hs3⟩
  · simp -dsimp -implicitDefEqProofs (disch := first | omega | assumption | (simp only [Option.isSome_some, Qt0]; done) | (simp only [UInt64.reduceToNat, UInt32.reduceToNat, UInt8.reduceToNat, List.length_cons, List.length_nil, List.length_append, Int.toNat_natCast] <;> omega) | fail) only [Nat.reduceLT, Nat.reduceLeDiff, Nat.reduceEqDiff, ↓reduceIte, Int.reduceLT, Int.reduceLE, Int.reduceToNat, Int.reduceEq, Int.reduceNe, Nat.reduceAdd, UInt8.reduceOfNat, UInt16.reduceOfNat, UInt32.reduceOfNat, UInt64.reduceOfNat, UInt64.reduceToNat, UInt32.reduceToNat, UInt16.reduceToNat, UInt8.reduceToNat, Int.reduceAdd, Int.reduceSub, Int.reduceMul, Nat.reduceMul, Qp0, Ql0, Qe0]
    exact ⟨_, hgl.trans (PH.Le.mk hd2.top hd2.same), by simp⟩
  simp -dsimp -implicitDefEqProofs (disch := first | omega | assumption | (simp only [Option.isSome_some, Qt0]; done) | (simp only [UInt64.reduceToNat, UInt32.reduceToNat, UInt8.reduceToNat, List.length_cons, List.length_nil, List.length_append, Int.toNat_natCast] <;> omega) | fail) only [Nat.reduceLT, Nat.reduceLeDiff, Nat.reduceEqDiff, ↓reduceIte, Int.reduceLT, Int.reduceLE, Int.reduceToNat, Int.reduceEq, Int.reduceNe, Nat.reduceAdd, UInt8.reduceOfNat, UInt16.reduceOfNat, UInt32.reduceOfNat, UInt64.reduceOfNat, UInt64.reduceToNat, UInt32.reduceToNat, UInt16.reduceToNat, UInt8.reduceToNat, Int.reduceAdd, Int.reduceSub, Int.reduceMul, Nat.reduceMul, Qp0, Ql0, Qe0]
  refine PW_loopL (fun n f h' => ∃ (i : Nat) (g : PH) (d : Dk), n + i = z_script.length ∧ f 5 = some (.pointer (some ⟨db, 0, none⟩)) ∧ f 7 = some (.pointer (some ⟨c, 0, none⟩)) ∧ f 48 = some (.slice A_script z_script.length c_script) ∧ f 49 = some (.int .i64 z_script.length) ∧ f 50 = some (.int .i64 i) ∧ PH.Le (PH.empty w) g ∧ DS g h' db d ∧ g.m c = some ⟨vK d, 5⟩ ∧ Good d) (by kernel_rfl) z_script.length ⟨0, g, d0, by omega, ?_, ?_, ?_, ?_, ?_, hgl, hd2, hgc, gd⟩ ?_
  · simp -dsimp -implicitDefEqProofs (disch := first | omega | assumption | (simp only [Option.isSome_some, Qt0]; done) | (simp only [UInt64.reduceToNat, UInt32.reduceToNat, UInt8.reduceToNat, List.length_cons, List.length_nil, List.length_append, Int.toNat_natCast] <;> omega) | fail) only [Nat.reduceLT, Nat.reduceLeDiff, Nat.reduceEqDiff, ↓reduceIte, Int.reduceLT, Int.reduceLE, Int.reduceToNat, Int.reduceEq, Int.reduceNe, Nat.reduceAdd, UInt8.reduceOfNat, UInt16.reduceOfNat, UInt32.reduceOfNat, UInt64.reduceOfNat, UInt64.reduceToNat, UInt32.reduceToNat, UInt16.reduceToNat, UInt8.reduceToNat, Int.reduceAdd, Int.reduceSub, Int.reduceMul, Nat.reduceMul, Qp0, Ql0, Qe0]
  · simp -dsimp -implicitDefEqProofs (disch := first | omega | assumption | (simp only [Option.isSome_some, Qt0]; done) | (simp only [UInt64.reduceToNat, UInt32.reduceToNat, UInt8.reduceToNat, List.length_cons, List.length_nil, List.length_append, Int.toNat_natCast] <;> omega) | fail) only [Nat.reduceLT, Nat.reduceLeDiff, Nat.reduceEqDiff, ↓reduceIte, Int.reduceLT, Int.reduceLE, Int.reduceToNat, Int.reduceEq, Int.reduceNe, Nat.reduceAdd, UInt8.reduceOfNat, UInt16.reduceOfNat, UInt32.reduceOfNat, UInt64.reduceOfNat, UInt64.reduceToNat, UInt32.reduceToNat, UInt16.reduceToNat, UInt8.reduceToNat, Int.reduceAdd, Int.reduceSub, Int.reduceMul, Nat.reduceMul, Qp0, Ql0, Qe0]
  · simp -dsimp -implicitDefEqProofs (disch := first | omega | assumption | (simp only [Option.isSome_some, Qt0]; done) | (simp only [UInt64.reduceToNat, UInt32.reduceToNat, UInt8.reduceToNat, List.length_cons, List.length_nil, List.length_append, Int.toNat_natCast] <;> omega) | fail) only [Nat.reduceLT, Nat.reduceLeDiff, Nat.reduceEqDiff, ↓reduceIte, Int.reduceLT, Int.reduceLE, Int.reduceToNat, Int.reduceEq, Int.reduceNe, Nat.reduceAdd, UInt8.reduceOfNat, UInt16.reduceOfNat, UInt32.reduceOfNat, UInt64.reduceOfNat, UInt64.reduceToNat, UInt32.reduceToNat, UInt16.reduceToNat, UInt8.reduceToNat, Int.reduceAdd, Int.reduceSub, Int.reduceMul, Nat.reduceMul, Qp0, Ql0, Qe0]
  · simp -dsimp -implicitDefEqProofs (disch := first | omega | assumption | (simp only [Option.isSome_some, Qt0]; done) | (simp only [UInt64.reduceToNat, UInt32.reduceToNat, UInt8.reduceToNat, List.length_cons, List.length_nil, List.length_append, Int.toNat_natCast] <;> omega) | fail) only [Nat.reduceLT, Nat.reduceLeDiff, Nat.reduceEqDiff, ↓reduceIte, Int.reduceLT, Int.reduceLE, Int.reduceToNat, Int.reduceEq, Int.reduceNe, Nat.reduceAdd, UInt8.reduceOfNat, UInt16.reduceOfNat, UInt32.reduceOfNat, UInt64.reduceOfNat, UInt64.reduceToNat, UInt32.reduceToNat, UInt16.reduceToNat, UInt8.reduceToNat, Int.reduceAdd, Int.reduceSub, Int.reduceMul, Nat.reduceMul, Qp0, Ql0, Qe0]
  · simp -dsimp -implicitDefEqProofs (disch := first | omega | assumption | (simp only [Option.isSome_some, Qt0]; done) | (simp only [UInt64.reduceToNat, UInt32.reduceToNat, UInt8.reduceToNat, List.length_cons, List.length_nil, List.length_append, Int.toNat_natCast] <;> omega) | fail) only [Nat.reduceLT, Nat.reduceLeDiff, Nat.reduceEqDiff, ↓reduceIte, Int.reduceLT, Int.reduceLE, Int.reduceToNat, Int.reduceEq, Int.reduceNe, Nat.reduceAdd, UInt8.reduceOfNat, UInt16.reduceOfNat, UInt32.reduceOfNat, UInt64.reduceOfNat, UInt64.reduceToNat, UInt32.reduceToNat, UInt16.reduceToNat, UInt8.reduceToNat, Int.reduceAdd, Int.reduceSub, Int.reduceMul, Nat.reduceMul, Qp0, Ql0, Qe0]
    try rfl
  clear hgd hgl hd2 hgc gd
  rintro n f h' ⟨i, g, d, hni, f5, f7, f48, f49, f50, hgl, hd, hgc, gd⟩ hl'
  by_cases hi : i < z_script.length
  rotate_left
  · have e1 : decide ((i : Int) < (z_script.length : Int)) = false := decide_eq_false (by omega)
    simp -dsimp -implicitDefEqProofs (disch := first | omega | assumption | (simp only [Option.isSome_some, Qt0]; done) | (simp only [UInt64.reduceToNat, UInt32.reduceToNat, UInt8.reduceToNat, List.length_cons, List.length_nil, List.length_append, Int.toNat_natCast] <;> omega) | fail) only [Nat.reduceLT, Nat.reduceLeDiff, Nat.reduceEqDiff, ↓reduceIte, Int.reduceLT, Int.reduceLE, Int.reduceToNat, Int.reduceEq, Int.reduceNe, Nat.reduceAdd, UInt8.reduceOfNat, UInt16.reduceOfNat, UInt32.reduceOfNat, UInt64.reduceOfNat, UInt64.reduceToNat, UInt32.reduceToNat, UInt16.reduceToNat, UInt8.reduceToNat, Int.reduceAdd, Int.reduceSub, Int.reduceMul, Nat.reduceMul, Qp0, Ql0, Qe0, f5, f7, f48, f49, f50, e1]
    exact ⟨_, hgl.trans (PH.Le.mk hd.top hd.same), by simp⟩
  have e1 : decide ((i : Int) < (z_script.length : Int)) = true := decide_eq_true (by omega)
  obtain ⟨p, hp⟩ : ∃ p, z_script[i]? = some p := ⟨_, List.getElem?_eq_getElem hi⟩
  have hps := hs3 p (List.mem_of_getElem? hp)
  have hpw := hw_script p (List.mem_of_getElem? hp)
  have hrz := hr_script h'
  obtain ⟨b, o, rfl⟩ := hrz.addr (by rw [opsL_length]; omega)
  have hrd : rdN w h' ⟨b, o + i * 4, none⟩ 4 = some [.int .i64 p.1, str p.2.1, .int .i64 p.2.2.1, .int .i64 p.2.2.2] := by
    have hc : Rv w h' (some ⟨b, o + i * 4, none⟩) (opL p) := fun j u eu => by
      have hj : j < 4 := (List.getElem?_eq_some_iff.1 eu).1
      have e2 := opsL_get z_script i p hp j hj
      rw [eu] at e2
      obtain ⟨b', o', h1, h2⟩ := hrz (i * 4 + j) u e2
      injection h1 with h1
      injection h1 with h1 h3
      subst h1; subst h3
      exact ⟨b, o + i * 4, rfl, by rw [Nat.add_assoc]; exact h2⟩
    exact hc.rdN hl' rfl (by omega)
  obtain ⟨K, s, N, M⟩ := p
  simp only at hps hpw hrd
  have ha : allOne [.int .i64 K, str s, .int .i64 N, .int .i64 M] := fun v hv => by
    simp only [List.mem_cons, List.not_mem_nil, or_false] at hv
    rcases hv with rfl | rfl | rfl | rfl <;> rfl
  simp -dsimp -implicitDefEqProofs (disch := first | omega | assumption | (simp only [Option.isSome_some, Qt0]; done) | (simp only [UInt64.reduceToNat, UInt32.reduceToNat, UInt8.reduceToNat, List.length_cons, List.length_nil, List.length_append, Int.toNat_natCast] <;> omega) | fail) only [Nat.reduceLT, Nat.reduceLeDiff, Nat.reduceEqDiff, ↓reduceIte, Int.reduceLT, Int.reduceLE, Int.reduceToNat, Int.reduceEq, Int.reduceNe, Nat.reduceAdd, UInt8.reduceOfNat, UInt16.reduceOfNat, UInt32.reduceOfNat, UInt64.reduceOfNat, UInt64.reduceToNat, UInt32.reduceToNat, UInt16.reduceToNat, UInt8.reduceToNat, Int.reduceAdd, Int.reduceSub, Int.reduceMul, Nat.reduceMul, Qp0, Ql0, Qe0, f5, f7, f48, f49, f50, e1, hrd]
  refine fun ob hob => ?_
  have hob' : h'.top ≤ ob := hob
  have hd2 := hd.both hob' ⟨[.int .i64 K, str s, .int .i64 N, .int .i64 M], 4⟩
  have hlt := hd.top
  have hgc2 : (g.new ob ⟨[.int .i64 K, str s, .int .i64 N, .int .i64 M], 4⟩).m c = some ⟨vK d, 5⟩ := by have := g.lt _ _ hgc; rw [PH.new_m, if_neg (by omega)]; exact hgc
  have hgl2 := hgl.new ob ⟨[.int .i64 K, str s, .int .i64 N, .int .i64 M], 4⟩ (Nat.le_trans hgl.top (Nat.le_trans hlt hob'))
  have hro : rdN w (h'.new ob ⟨[.int .i64 K, str s, .int .i64 N, .int .i64 M], 4⟩) ⟨ob, 0, none⟩ 4 = some [.int .i64 K, str s, .int .i64 N, .int .i64 M] := by
    unfold rdN
    simp only [PH.new_m, if_pos rfl]
    rfl
  generalize g.new ob ⟨[.int .i64 K, str s, .int .i64 N, .int .i64 M], 4⟩ = g2 at *
  obtain ⟨H, hH⟩ : ∃ H, h'.new ob ⟨[.int .i64 K, str s, .int .i64 N, .int .i64 M], 4⟩ = H := ⟨_, rfl⟩
  rw [hH] at hd2 hro
  have hDo := Lib.hid (does_any g2 db c d w H hg hd2 hgc2 gd K N M s hps hpw)
  simp -dsimp -implicitDefEqProofs (disch := first | omega | assumption | (simp only [Option.isSome_some, Qt0]; done) | (simp only [UInt64.reduceToNat, UInt32.reduceToNat, UInt8.reduceToNat, List.length_cons, List.length_nil, List.length_append, Int.toNat_natCast] <;> omega) | fail) only [Nat.reduceLT, Nat.reduceLeDiff, Nat.reduceEqDiff, ↓reduceIte, Int.reduceLT, Int.reduceLE, Int.reduceToNat, Int.reduceEq, Int.reduceNe, Nat.reduceAdd, UInt8.reduceOfNat, UInt16.reduceOfNat, UInt32.reduceOfNat, UInt64.reduceOfNat, UInt64.reduceToNat, UInt32.reduceToNat, UInt16.reduceToNat, UInt8.reduceToNat, Int.reduceAdd, Int.reduceSub, Int.reduceMul, Nat.reduceMul, Qp0, Ql0, Qe0, List.set_cons_zero, List.set_cons_succ, List.take_zero, List.drop_succ_cons, List.drop_zero, List.drop_nil, List.nil_append, List.append_nil, List.take_succ_cons, ite_true, PH.new_new, hH, f5, f7, f48, f49, f50, hro]
  refine hDo.out.mono ?_
  rintro v h4 ⟨rfl, g3, d3, hl3, hd3, hc3, gd3⟩
  have hSm := Lib.hid (same_any d3 w h4 g3 db c hd3 hc3 gd3)
  simp -dsimp -implicitDefEqProofs (disch := first | omega | assumption | (simp only [Option.isSome_some, Qt0]; done) | (simp only [UInt64.reduceToNat, UInt32.reduceToNat, UInt8.reduceToNat, List.length_cons, List.length_nil, List.length_append, Int.toNat_natCast] <;> omega) | fail) only [Nat.reduceLT, Nat.reduceLeDiff, Nat.reduceEqDiff, ↓reduceIte, Int.reduceLT, Int.reduceLE, Int.reduceToNat, Int.reduceEq, Int.reduceNe, Nat.reduceAdd, UInt8.reduceOfNat, UInt16.reduceOfNat, UInt32.reduceOfNat, UInt64.reduceOfNat, UInt64.reduceToNat, UInt32.reduceToNat, UInt16.reduceToNat, UInt8.reduceToNat, Int.reduceAdd, Int.reduceSub, Int.reduceMul, Nat.reduceMul, Qp0, Ql0, Qe0, f5, f7, f48, f49, f50]
  refine hSm.out.mono ?_
  rintro v h5 ⟨rfl, hd5⟩
  simp -dsimp -implicitDefEqProofs (disch := first | omega | assumption | (simp only [Option.isSome_some, Qt0]; done) | (simp only [UInt64.reduceToNat, UInt32.reduceToNat, UInt8.reduceToNat, List.length_cons, List.length_nil, List.length_append, Int.toNat_natCast] <;> omega) | fail) only [Nat.reduceLT, Nat.reduceLeDiff, Nat.reduceEqDiff, ↓reduceIte, Int.reduceLT, Int.reduceLE, Int.reduceToNat, Int.reduceEq, Int.reduceNe, Nat.reduceAdd, UInt8.reduceOfNat, UInt16.reduceOfNat, UInt32.reduceOfNat, UInt64.reduceOfNat, UInt64.reduceToNat, UInt32.reduceToNat, UInt16.reduceToNat, UInt8.reduceToNat, Int.reduceAdd, Int.reduceSub, Int.reduceMul, Nat.reduceMul, Qp0, Ql0, Qe0, f5, f7, f48, f49, f50]
  refine ⟨n - 1, _, by omega, PH.Le.refl _, i + 1, g3, d3, by omega, by trivial, by trivial, by trivial, by trivial, by simp, ?_, hd5, hc3, gd3⟩
  refine PH.Le.trans (b := g2.del c) ⟨hgl2.top, fun x k e => ?_⟩ hl3
  rw [PH.del_m, if_neg (fun q => by subst q; rw [hgt] at e; cases e)]
  exact hgl2.m x k e
set_option maxRecDepth 100000 in
theorem liftedBlockPlays (os : Os) (started : os.Started) (H : Type) (enc : TypeId × Value → H) :
    ReturnsInHanded {} Tryd.checked os 3 .any (fun w args => (Rows.blockPlaysSpec.pre enc Tryd.prog Tryd.f3 [] false w args ∧ laidMetH Tryd.prog Door.laid w) ∧ sizedMet enc Tryd.prog Tryd.f3 (OpenSpec.ofChange Rows.blockPlaysSpec) false w args) (Rows.blockPlaysSpec.post enc Tryd.prog Tryd.f3 false true false false) := by
  refine returnsInHanded_of_change_and (C := Tryd.checked) (X := fun w _ => laidMetH Tryd.prog Door.laid w) (fun _ _ _ hh h => h.of_heap hh) own started (by kernel_rfl) Tryd.func3
    (ChangeSpec.witness_at (enc := enc) (C := Tryd.checked) (os := os) (X := fun w _ => laidMetH Tryd.prog Door.laid w) false (Door.laidWorld os) #[.int .i64 0, .slice none 0 0] 8 rfl (by kernel_rfl) (by kernel_rfl) (by kernel_rfl) (by kernel_rfl) (by kernel_rfl) (Door.laidWorld_met os _)) ?_
  intro W base args ds gs before hval0 hW _ hsz0 hL _
  have hsz : (DataW.weightsEach Tryd.prog (Tryd.f3.params.toList ++ Rows.blockPlaysSpec.plain.varTypes Tryd.prog) (ds ++ gs)).all (· ≤ reachBytes) = true := hsz0
  have hval : ∀ (j : Nat) t v, Tryd.f3.params[j]? = some t → args[j]? = some v → Value.okWide Tryd.prog W .any base t v := hval0
  have hW' := hW
  obtain ⟨p, q, hA0, hV, rfl, _, _⟩ := hW
  have hA : DataW.TrodAll enc Tryd.prog W 0 (fun _ => true) true Tryd.f3.params.toList args.toList ds p := hA0
  rw [Tryd.params3] at hA hval hsz
  obtain ⟨v0, v1, d0, d1, p0, p1, rfl, rfl, rfl, h0, h1⟩ := trodAll_two hA
  obtain ⟨rfl, _⟩ := trodVars_none hV
  obtain ⟨a0, rfl, rfl, rfl, w0⟩ := open_int Tryd.underlying3 (hval 0 _ v0 rfl rfl) h0
  obtain ⟨A1, c1, z1, rfl, hc1, hr1, hw1⟩ := open_opsw (hval 1 _ v1 rfl rfl) h1
  refine (walk_BlockPlays a0 A1 c1 z1 W w0 hc1 hr1 hw1 (Door.handle_of_laid hL)).mono fun en W' ⟨he, hb⟩ => ?_
  subst he
  exact ⟨_, rfl, law_post (tb := 4) laidOut hW' rfl rfl rfl rfl Tryd.underlying4 (by intro t ht; revert t; exact of_decide_eq_true (by kernel_rfl)) (by kernel_rfl) hb⟩

theorem bareBlockPlays : Rows.BlockPlaysSaid :=
  OpenClaim.holds_of_wide 3 Tryd.f3 rfl rfl rfl rfl rfl rfl rfl ⟨rfl, rfl, rfl, rfl, rfl⟩ rfl rfl rfl rfl rfl (by kernel_rfl) Tryd.func3 (by kernel_rfl)
    (of_decide_eq_true (by kernel_rfl)) (by unfold Func.isWrapper; first | (rw [if_pos (by decide +kernel)]; kernel_rfl) | (rw [if_neg (by decide +kernel)]; exact ⟨rfl, rfl⟩))
    (fun os started H enc _ => liftedBlockPlays os started H enc)
set_option maxRecDepth 100000 in
theorem provedBlockPlays : Rows.BlockPlaysCardSaid :=
  Claim7.holds_tied_plain_at .later [] [.handle] true _ true
    bareBlockPlays (fun _ h => by cases h) (by kernel_rfl) (fun _ h => by cases h) blockPlays_row_tie rfl ⟨rfl, rfl⟩ (by kernel_rfl) rfl
    (fun f fn hf hfn => by
      obtain rfl : f = 3 := Option.some.inj ((show Tryd.prog.funcNamed "sojourn/sojournlaw08.BlockPlays" = some 3 by kernel_rfl).symm.trans hf) |>.symm
      obtain rfl : fn = Tryd.f3 := (Option.some.inj (Tryd.func3.symm.trans hfn)).symm
      exact ⟨by kernel_rfl, fun j t ht => by
        rw [Tryd.params3] at ht
        rcases j with _ | _ | j <;> first | (simp at ht; done) | (simp at ht; subst ht; kernel_rfl)⟩)
    (by kernel_rfl)
#print axioms provedBlockPlays


end Go.Proofs.YtcjojkhieocehaaDoor.BrP
