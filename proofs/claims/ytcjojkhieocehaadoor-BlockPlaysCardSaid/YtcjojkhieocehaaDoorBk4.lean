/- Walks of the device's functions: cut, read, room, fuse, crash; a device that isn't there. -/
import Derived.Test.YtcjojkhieocehaaDoorBk3
namespace Go.Proofs.YtcjojkhieocehaaDoor
set_option linter.unusedVariables false
set_option linter.unusedSimpArgs false
open Go.RowKit Px
section
variable {P : Program} {t e : TypeId} {K : Value → Prop}
theorem y_to3nil (hu : sl1B P t = true) (k k' : IntKind) : Yld P (Instr.sliceAt t (.slice none 0 0) none (some (.int k' 0)) (some (.int k 0))) K = K (.slice none 0 0) := Yld_eq fun w => by
  obtain ⟨e, h3, h4⟩ := sl1_parts hu
  simp [Instr.sliceAt, run_underlying h3, Instr.slice, Instr.sliceBounds, Instr.sliceBound, asIntOf, Px.run_sizeOf h4]
theorem y_midnil (hu : sl1B P t = true) (k k' : IntKind) : Yld P (Instr.sliceAt t (.slice none 0 0) (some (.int k' 0)) (some (.int k 0)) none) K = K (.slice none 0 0) := Yld_eq fun w => by
  obtain ⟨e, h3, h4⟩ := sl1_parts hu
  simp [Instr.sliceAt, run_underlying h3, Instr.slice, Instr.sliceBounds, Instr.sliceBound, asIntOf, Px.run_sizeOf h4]
end
theorem Rs_cut {w0 : World} {h : PH} {bl c lim i j : Nat} {X : List Value} {l : List UInt8} (hb : h.m bl = some ⟨X, lim⟩) (hX : l.length ≤ X.length) (ht : X.take l.length = bs l) (hc : l.length ≤ c) (hij : i ≤ j) (hj : j ≤ l.length) :
    Rs w0 h 1 (cutAt bl 0 i (decide (c = i))) (j - i) (bs ((l.drop i).take (j - i))) := by
  by_cases hci : c = i
  · have h0 : j - i = 0 := by omega
    rw [h0, List.take_zero]
    exact Rs.nil w0 h 1 _
  · unfold cutAt
    rw [decide_eq_false hci]
    refine ⟨by rw [bs_length]; simp; omega, fun _ => ⟨⟨bl, 0 + i, none⟩, rfl, ?_⟩⟩
    unfold rdN
    simp only [hb]
    rw [if_pos ⟨trivial, by omega⟩, Nat.mul_one, Nat.zero_add]
    have e : bs ((l.drop i).take (j - i)) = ((bs l).drop i).take (j - i) := by simp [bs, List.map_take, List.map_drop]
    rw [e, ← ht, List.drop_take, List.take_take, Nat.min_eq_left (by omega)]
theorem Ro.cut {h : PH} {A : Option Addr} {l : List UInt8} {c : Nat} (r : Ro h A l c) (n : Nat) (hn : n ≤ l.length) (hA : A ≠ none) : Ro h A (l.take n) n := by
  rcases r with ⟨h1, _⟩ | ⟨b, X, lim, rfl, h1, h2, h3, h4, h5, h6⟩
  · exact absurd h1 hA
  · have hl : (l.take n).length = n := by rw [List.length_take]; omega
    refine .inr ⟨b, X, lim, rfl, by omega, by omega, h3, by omega, ?_, by omega⟩
    rw [hl]
    have : X.take n = (X.take l.length).take n := by rw [List.take_take, Nat.min_eq_left hn]
    rw [this, h5]; simp [bs, List.map_take]
theorem Dk.op_up {d : Dk} (h : d.op.2 = true) : d.down = false := by
  unfold Dk.op at h
  by_cases hd : d.down = true
  · rw [if_pos hd] at h; cases h
  · simpa using hd
def Dk.read (d : Dk) (i j : Int) : List UInt8 × Option (Int × Int) := if d.down = true then ([], some (5, 0)) else if i < 0 ∨ j < i ∨ (d.l.length : Int) < j then ([], some (1, (d.l.length : Int))) else ((d.l.drop i.toNat).take (j.toNat - i.toNat), none)
def lost (mask : List UInt8) (i : Nat) : Bool := !(decide (mask = [])) && decide (mask.getD (i % mask.length) 0 % 2 = 0)
def zl (mask : List UInt8) (safe : Nat) (l : List UInt8) : Nat → List UInt8
  | 0 => l
  | k + 1 => if lost mask k = true then (zl mask safe l k).set (safe + k) 0 else zl mask safe l k
theorem zl_length (mask : List UInt8) (safe : Nat) (l : List UInt8) : ∀ k, (zl mask safe l k).length = l.length
  | 0 => rfl
  | k + 1 => by unfold zl; split <;> simp [zl_length mask safe l k]
def Dk.kept (d : Dk) (kept : Int) : Int := (kept.tmod ((d.l.length : Int) - d.safe + 1) + ((d.l.length : Int) - d.safe + 1)) % ((d.l.length : Int) - d.safe + 1)
def Dk.crash (d : Dk) (k : Int) (mask : List UInt8) : Dk := { l := (zl mask d.safe.toNat d.l (d.kept k).toNat).take (d.safe + d.kept k).toNat, safe := d.safe + d.kept k, room := d.room, fuse := -1, down := false }
section
variable (h0 : PH) (b : Nat) (d : Dk) (w0 : World) (h : PH)
set_option maxRecDepth 20000 in
set_option maxHeartbeats 1000000 in
theorem cut_any (hd : DS h0 h b d) (g : Good d) (n : Int) : PCalls Tryd.prog w0 24 [.pointer (some ⟨b, 0, none⟩), .int .i64 n] h fun v h' => DS h0 h' b (d.cut n).1 ∧ ER h' v (d.cut n).2 := by
  refine PCalls_body Tryd.func24 (by kernel_rfl) rfl _ Tryd.ntmps24 (by kernel_rfl) (by kernel_rfl) _ Tryd.results24 ?_
  have hD := Lib.hid (down_any h0 b d w0 h hd)
  have hO := op_any h0 b d w0 h hd g.fuse
  obtain ⟨ol, os, orm⟩ := d.op_l
  obtain ⟨A, c, hb, hr, hA⟩ := hd.cells
  unfold DKc at hb
  by_cases hno : d.down = false ∧ (n < 0 ∨ (d.l.length : Int) < n)
  · have ha : d.cut n = (d, some (1, (d.l.length : Int))) := by unfold Dk.cut; rw [if_pos hno]
    rw [ha]
    have hB := bad_any h0 b d w0 h hd 1
    rw [show d.size = d.l.length by unfold Dk.size; rw [hno.1]; rfl] at hB
    have hB := Lib.hid hB
    rw [hno.1] at hD hb
    clear hO
    by_cases h1 : n < 0
    · have e1 := decide_eq_true h1
      simp -dsimp -implicitDefEqProofs (disch := first | omega | assumption | (simp only [Option.isSome_some, Qt0]; done) | (simp only [UInt64.reduceToNat, UInt32.reduceToNat, UInt8.reduceToNat, List.length_cons, List.length_nil, List.length_append, Int.toNat_natCast] <;> omega) | fail) only [Nat.reduceLT, Nat.reduceLeDiff, Nat.reduceEqDiff, ↓reduceIte, Int.reduceLT, Int.reduceLE, Int.reduceToNat, Int.reduceEq, Int.reduceNe, Nat.reduceAdd, UInt8.reduceOfNat, UInt16.reduceOfNat, UInt32.reduceOfNat, UInt64.reduceOfNat, UInt64.reduceToNat, UInt32.reduceToNat, UInt16.reduceToNat, UInt8.reduceToNat, Int.reduceAdd, Int.reduceSub, Int.reduceMul, Nat.reduceMul, Qp0, Ql0, Qe0]
      refine hD.out.mono ?_
      rintro v hz ⟨rfl, hz⟩
      rw [hz]
      clear hz
      simp -dsimp -implicitDefEqProofs (disch := first | omega | assumption | (simp only [Option.isSome_some, Qt0]; done) | (simp only [UInt64.reduceToNat, UInt32.reduceToNat, UInt8.reduceToNat, List.length_cons, List.length_nil, List.length_append, Int.toNat_natCast] <;> omega) | fail) only [Nat.reduceLT, Nat.reduceLeDiff, Nat.reduceEqDiff, ↓reduceIte, Int.reduceLT, Int.reduceLE, Int.reduceToNat, Int.reduceEq, Int.reduceNe, Nat.reduceAdd, UInt8.reduceOfNat, UInt16.reduceOfNat, UInt32.reduceOfNat, UInt64.reduceOfNat, UInt64.reduceToNat, UInt32.reduceToNat, UInt16.reduceToNat, UInt8.reduceToNat, Int.reduceAdd, Int.reduceSub, Int.reduceMul, Nat.reduceMul, Qp0, Ql0, Qe0, rd_M, rdM_some, hb, e1]
      refine hB.out.mono ?_
      rintro v hz ⟨be, rfl, hbe, rfl⟩
      simp -dsimp -implicitDefEqProofs (disch := first | omega | assumption | (simp only [Option.isSome_some, Qt0]; done) | (simp only [UInt64.reduceToNat, UInt32.reduceToNat, UInt8.reduceToNat, List.length_cons, List.length_nil, List.length_append, Int.toNat_natCast] <;> omega) | fail) only [Nat.reduceLT, Nat.reduceLeDiff, Nat.reduceEqDiff, ↓reduceIte, Int.reduceLT, Int.reduceLE, Int.reduceToNat, Int.reduceEq, Int.reduceNe, Nat.reduceAdd, UInt8.reduceOfNat, UInt16.reduceOfNat, UInt32.reduceOfNat, UInt64.reduceOfNat, UInt64.reduceToNat, UInt32.reduceToNat, UInt16.reduceToNat, UInt8.reduceToNat, Int.reduceAdd, Int.reduceSub, Int.reduceMul, Nat.reduceMul, Qp0, Ql0, Qe0]
      exact ⟨_, PH.Le.refl _, hd.more hbe, EV.at (show EV _ (.code 1) (codeV 1) from rfl) hbe⟩
    · have e1 := decide_eq_false h1
      have e2 : decide ((d.l.length : Int) < n) = true := decide_eq_true (by omega)
      simp -dsimp -implicitDefEqProofs (disch := first | omega | assumption | (simp only [Option.isSome_some, Qt0]; done) | (simp only [UInt64.reduceToNat, UInt32.reduceToNat, UInt8.reduceToNat, List.length_cons, List.length_nil, List.length_append, Int.toNat_natCast] <;> omega) | fail) only [Nat.reduceLT, Nat.reduceLeDiff, Nat.reduceEqDiff, ↓reduceIte, Int.reduceLT, Int.reduceLE, Int.reduceToNat, Int.reduceEq, Int.reduceNe, Nat.reduceAdd, UInt8.reduceOfNat, UInt16.reduceOfNat, UInt32.reduceOfNat, UInt64.reduceOfNat, UInt64.reduceToNat, UInt32.reduceToNat, UInt16.reduceToNat, UInt8.reduceToNat, Int.reduceAdd, Int.reduceSub, Int.reduceMul, Nat.reduceMul, Qp0, Ql0, Qe0]
      refine hD.out.mono ?_
      rintro v hz ⟨rfl, hz⟩
      rw [hz]
      clear hz
      simp -dsimp -implicitDefEqProofs (disch := first | omega | assumption | (simp only [Option.isSome_some, Qt0]; done) | (simp only [UInt64.reduceToNat, UInt32.reduceToNat, UInt8.reduceToNat, List.length_cons, List.length_nil, List.length_append, Int.toNat_natCast] <;> omega) | fail) only [Nat.reduceLT, Nat.reduceLeDiff, Nat.reduceEqDiff, ↓reduceIte, Int.reduceLT, Int.reduceLE, Int.reduceToNat, Int.reduceEq, Int.reduceNe, Nat.reduceAdd, UInt8.reduceOfNat, UInt16.reduceOfNat, UInt32.reduceOfNat, UInt64.reduceOfNat, UInt64.reduceToNat, UInt32.reduceToNat, UInt16.reduceToNat, UInt8.reduceToNat, Int.reduceAdd, Int.reduceSub, Int.reduceMul, Nat.reduceMul, Qp0, Ql0, Qe0, rd_M, rdM_some, hb, e1, e2]
      refine hB.out.mono ?_
      rintro v hz ⟨be, rfl, hbe, rfl⟩
      simp -dsimp -implicitDefEqProofs (disch := first | omega | assumption | (simp only [Option.isSome_some, Qt0]; done) | (simp only [UInt64.reduceToNat, UInt32.reduceToNat, UInt8.reduceToNat, List.length_cons, List.length_nil, List.length_append, Int.toNat_natCast] <;> omega) | fail) only [Nat.reduceLT, Nat.reduceLeDiff, Nat.reduceEqDiff, ↓reduceIte, Int.reduceLT, Int.reduceLE, Int.reduceToNat, Int.reduceEq, Int.reduceNe, Nat.reduceAdd, UInt8.reduceOfNat, UInt16.reduceOfNat, UInt32.reduceOfNat, UInt64.reduceOfNat, UInt64.reduceToNat, UInt32.reduceToNat, UInt16.reduceToNat, UInt8.reduceToNat, Int.reduceAdd, Int.reduceSub, Int.reduceMul, Nat.reduceMul, Qp0, Ql0, Qe0]
      exact ⟨_, PH.Le.refl _, hd.more hbe, EV.at (show EV _ (.code 1) (codeV 1) from rfl) hbe⟩
  cases hdn : d.down
  · have e1 : decide (n < 0) = false := decide_eq_false (fun h => hno ⟨hdn, .inl h⟩)
    have e2 : decide ((d.l.length : Int) < n) = false := decide_eq_false (fun h => hno ⟨hdn, .inr h⟩)
    have hn0 : 0 ≤ n := by have := of_decide_eq_false e1; omega
    have hn1 : n ≤ d.l.length := by have := of_decide_eq_false e2; omega
    rw [hdn] at hD hb
    cases hok : d.op.2
    · have ha : d.cut n = (d.op.1, some (5, 0)) := by unfold Dk.cut; rw [if_neg hno, if_neg (by rw [hok]; decide)]
      rw [ha]
      rw [hok] at hO
      have hO := Lib.hid hO
      simp -dsimp -implicitDefEqProofs (disch := first | omega | assumption | (simp only [Option.isSome_some, Qt0]; done) | (simp only [UInt64.reduceToNat, UInt32.reduceToNat, UInt8.reduceToNat, List.length_cons, List.length_nil, List.length_append, Int.toNat_natCast] <;> omega) | fail) only [Nat.reduceLT, Nat.reduceLeDiff, Nat.reduceEqDiff, ↓reduceIte, Int.reduceLT, Int.reduceLE, Int.reduceToNat, Int.reduceEq, Int.reduceNe, Nat.reduceAdd, UInt8.reduceOfNat, UInt16.reduceOfNat, UInt32.reduceOfNat, UInt64.reduceOfNat, UInt64.reduceToNat, UInt32.reduceToNat, UInt16.reduceToNat, UInt8.reduceToNat, Int.reduceAdd, Int.reduceSub, Int.reduceMul, Nat.reduceMul, Qp0, Ql0, Qe0]
      refine hD.out.mono ?_
      rintro v hz ⟨rfl, hz⟩
      rw [hz]
      clear hz
      simp -dsimp -implicitDefEqProofs (disch := first | omega | assumption | (simp only [Option.isSome_some, Qt0]; done) | (simp only [UInt64.reduceToNat, UInt32.reduceToNat, UInt8.reduceToNat, List.length_cons, List.length_nil, List.length_append, Int.toNat_natCast] <;> omega) | fail) only [Nat.reduceLT, Nat.reduceLeDiff, Nat.reduceEqDiff, ↓reduceIte, Int.reduceLT, Int.reduceLE, Int.reduceToNat, Int.reduceEq, Int.reduceNe, Nat.reduceAdd, UInt8.reduceOfNat, UInt16.reduceOfNat, UInt32.reduceOfNat, UInt64.reduceOfNat, UInt64.reduceToNat, UInt32.reduceToNat, UInt16.reduceToNat, UInt8.reduceToNat, Int.reduceAdd, Int.reduceSub, Int.reduceMul, Nat.reduceMul, Qp0, Ql0, Qe0, rd_M, rdM_some, hb, e1, e2]
      refine hO.out.mono ?_
      rintro v hz ⟨hds, her⟩
      obtain ⟨t, x, rfl, hev⟩ := ER_no her
      simp -dsimp -implicitDefEqProofs (disch := first | omega | assumption | (simp only [Option.isSome_some, Qt0]; done) | (simp only [UInt64.reduceToNat, UInt32.reduceToNat, UInt8.reduceToNat, List.length_cons, List.length_nil, List.length_append, Int.toNat_natCast] <;> omega) | fail) only [Nat.reduceLT, Nat.reduceLeDiff, Nat.reduceEqDiff, ↓reduceIte, Int.reduceLT, Int.reduceLE, Int.reduceToNat, Int.reduceEq, Int.reduceNe, Nat.reduceAdd, UInt8.reduceOfNat, UInt16.reduceOfNat, UInt32.reduceOfNat, UInt64.reduceOfNat, UInt64.reduceToNat, UInt32.reduceToNat, UInt16.reduceToNat, UInt8.reduceToNat, Int.reduceAdd, Int.reduceSub, Int.reduceMul, Nat.reduceMul, Qp0, Ql0, Qe0]
      exact ⟨_, PH.Le.refl _, hds, hev⟩
    · have ha : d.cut n = ({ d.op.1 with l := d.l.take n.toNat, safe := if n < d.safe then n else d.safe }, none) := by unfold Dk.cut; rw [if_neg hno, if_pos hok]
      rw [ha]
      rw [hok] at hO
      have hO := Lib.hid hO
      simp -dsimp -implicitDefEqProofs (disch := first | omega | assumption | (simp only [Option.isSome_some, Qt0]; done) | (simp only [UInt64.reduceToNat, UInt32.reduceToNat, UInt8.reduceToNat, List.length_cons, List.length_nil, List.length_append, Int.toNat_natCast] <;> omega) | fail) only [Nat.reduceLT, Nat.reduceLeDiff, Nat.reduceEqDiff, ↓reduceIte, Int.reduceLT, Int.reduceLE, Int.reduceToNat, Int.reduceEq, Int.reduceNe, Nat.reduceAdd, UInt8.reduceOfNat, UInt16.reduceOfNat, UInt32.reduceOfNat, UInt64.reduceOfNat, UInt64.reduceToNat, UInt32.reduceToNat, UInt16.reduceToNat, UInt8.reduceToNat, Int.reduceAdd, Int.reduceSub, Int.reduceMul, Nat.reduceMul, Qp0, Ql0, Qe0]
      refine hD.out.mono ?_
      rintro v hz ⟨rfl, hz⟩
      rw [hz]
      clear hz
      simp -dsimp -implicitDefEqProofs (disch := first | omega | assumption | (simp only [Option.isSome_some, Qt0]; done) | (simp only [UInt64.reduceToNat, UInt32.reduceToNat, UInt8.reduceToNat, List.length_cons, List.length_nil, List.length_append, Int.toNat_natCast] <;> omega) | fail) only [Nat.reduceLT, Nat.reduceLeDiff, Nat.reduceEqDiff, ↓reduceIte, Int.reduceLT, Int.reduceLE, Int.reduceToNat, Int.reduceEq, Int.reduceNe, Nat.reduceAdd, UInt8.reduceOfNat, UInt16.reduceOfNat, UInt32.reduceOfNat, UInt64.reduceOfNat, UInt64.reduceToNat, UInt32.reduceToNat, UInt16.reduceToNat, UInt8.reduceToNat, Int.reduceAdd, Int.reduceSub, Int.reduceMul, Nat.reduceMul, Qp0, Ql0, Qe0, rd_M, rdM_some, hb, e1, e2]
      refine hO.out.mono ?_
      rintro v h2 ⟨hds, her⟩
      obtain rfl := ER_ok her
      rw [← ol] at hn1
      rw [← ol, ← os]
      generalize d.op.1 = d2 at *
      clear hb hA hr
      obtain ⟨A2, c2, hb2, hr2, hA2⟩ := hds.cells
      obtain ⟨m, rfl⟩ := Int.eq_ofNat_of_zero_le hn0
      have hmt : ((m : Int)).toNat = m := Int.toNat_natCast m
      obtain ⟨S, hS⟩ : ∃ S, S = (if (m : Int) < d2.safe then (m : Int) else d2.safe) := ⟨_, rfl⟩
      rcases hr2 with ⟨rfl, hl, rfl⟩ | ⟨bl, X, lim, rfl, r1, r2, r3, r4, r5, r6⟩
      · rw [hl] at hn1
        obtain rfl : m = 0 := by simp at hn1; omega
        have hnew := hds.upd (A := none) (c := 0) (d' := { d2 with l := d2.l.take 0, safe := S }) (.inl ⟨rfl, rfl, rfl⟩) hA2
        rw [hmt, ← hS]
        unfold DKc at hb2 hnew
        rw [hl] at hb2
        have hS' : (if (0 : Int) < d2.safe then (0 : Int) else d2.safe) = S := hS.symm
        simp -dsimp -implicitDefEqProofs (disch := first | omega | assumption | (simp only [Option.isSome_some, Qt0]; done) | (simp only [UInt64.reduceToNat, UInt32.reduceToNat, UInt8.reduceToNat, List.length_cons, List.length_nil, List.length_append, Int.toNat_natCast] <;> omega) | fail) only [Nat.reduceLT, Nat.reduceLeDiff, Nat.reduceEqDiff, ↓reduceIte, Int.reduceLT, Int.reduceLE, Int.reduceToNat, Int.reduceEq, Int.reduceNe, Nat.reduceAdd, UInt8.reduceOfNat, UInt16.reduceOfNat, UInt32.reduceOfNat, UInt64.reduceOfNat, UInt64.reduceToNat, UInt32.reduceToNat, UInt16.reduceToNat, UInt8.reduceToNat, Int.reduceAdd, Int.reduceSub, Int.reduceMul, Nat.reduceMul, Qp0, Ql0, Qe0, rd_M, rdM_some, hb2, List.set_cons_zero, List.set_cons_succ, y_to3nil, PH.new_new, hS']
        exact ⟨_, PH.Le.refl _, hnew, rfl⟩
      · have hr2 : Ro h2 (some ⟨bl, 0, none⟩) d2.l c2 := .inr ⟨bl, X, lim, rfl, r1, r2, r3, r4, r5, r6⟩
        have hnew := hds.upd (c := m) (d' := { d2 with l := d2.l.take m, safe := S }) (hr2.cut m (by omega) (by simp)) hA2
        rw [hmt, ← hS]
        have hlm : (d2.l.take m).length = m := by rw [List.length_take]; omega
        unfold DKc at hb2 hnew
        simp only [hlm] at hnew
        simp -dsimp -implicitDefEqProofs (disch := first | omega | assumption | (simp only [Option.isSome_some, Qt0]; done) | (simp only [UInt64.reduceToNat, UInt32.reduceToNat, UInt8.reduceToNat, List.length_cons, List.length_nil, List.length_append, Int.toNat_natCast] <;> omega) | fail) only [Nat.reduceLT, Nat.reduceLeDiff, Nat.reduceEqDiff, ↓reduceIte, Int.reduceLT, Int.reduceLE, Int.reduceToNat, Int.reduceEq, Int.reduceNe, Nat.reduceAdd, UInt8.reduceOfNat, UInt16.reduceOfNat, UInt32.reduceOfNat, UInt64.reduceOfNat, UInt64.reduceToNat, UInt32.reduceToNat, UInt16.reduceToNat, UInt8.reduceToNat, Int.reduceAdd, Int.reduceSub, Int.reduceMul, Nat.reduceMul, Qp0, Ql0, Qe0, rd_M, rdM_some, hb2, List.set_cons_zero, List.set_cons_succ, PH.new_new, hS.symm]
        exact ⟨_, PH.Le.refl _, hnew, rfl⟩
  · have hok : d.op.2 = false := by unfold Dk.op; rw [if_pos hdn]
    have ha : d.cut n = (d.op.1, some (5, 0)) := by unfold Dk.cut; rw [if_neg hno, if_neg (by rw [hok]; decide)]
    rw [ha]
    rw [hok] at hO
    rw [hdn] at hD
    have hO := Lib.hid hO
    simp -dsimp -implicitDefEqProofs (disch := first | omega | assumption | (simp only [Option.isSome_some, Qt0]; done) | (simp only [UInt64.reduceToNat, UInt32.reduceToNat, UInt8.reduceToNat, List.length_cons, List.length_nil, List.length_append, Int.toNat_natCast] <;> omega) | fail) only [Nat.reduceLT, Nat.reduceLeDiff, Nat.reduceEqDiff, ↓reduceIte, Int.reduceLT, Int.reduceLE, Int.reduceToNat, Int.reduceEq, Int.reduceNe, Nat.reduceAdd, UInt8.reduceOfNat, UInt16.reduceOfNat, UInt32.reduceOfNat, UInt64.reduceOfNat, UInt64.reduceToNat, UInt32.reduceToNat, UInt16.reduceToNat, UInt8.reduceToNat, Int.reduceAdd, Int.reduceSub, Int.reduceMul, Nat.reduceMul, Qp0, Ql0, Qe0]
    refine hD.out.mono ?_
    rintro v hz ⟨rfl, hz⟩
    rw [hz]
    clear hz
    simp -dsimp -implicitDefEqProofs (disch := first | omega | assumption | (simp only [Option.isSome_some, Qt0]; done) | (simp only [UInt64.reduceToNat, UInt32.reduceToNat, UInt8.reduceToNat, List.length_cons, List.length_nil, List.length_append, Int.toNat_natCast] <;> omega) | fail) only [Nat.reduceLT, Nat.reduceLeDiff, Nat.reduceEqDiff, ↓reduceIte, Int.reduceLT, Int.reduceLE, Int.reduceToNat, Int.reduceEq, Int.reduceNe, Nat.reduceAdd, UInt8.reduceOfNat, UInt16.reduceOfNat, UInt32.reduceOfNat, UInt64.reduceOfNat, UInt64.reduceToNat, UInt32.reduceToNat, UInt16.reduceToNat, UInt8.reduceToNat, Int.reduceAdd, Int.reduceSub, Int.reduceMul, Nat.reduceMul, Qp0, Ql0, Qe0]
    refine hO.out.mono ?_
    rintro v hz ⟨hds, her⟩
    obtain ⟨t, x, rfl, hev⟩ := ER_no her
    simp -dsimp -implicitDefEqProofs (disch := first | omega | assumption | (simp only [Option.isSome_some, Qt0]; done) | (simp only [UInt64.reduceToNat, UInt32.reduceToNat, UInt8.reduceToNat, List.length_cons, List.length_nil, List.length_append, Int.toNat_natCast] <;> omega) | fail) only [Nat.reduceLT, Nat.reduceLeDiff, Nat.reduceEqDiff, ↓reduceIte, Int.reduceLT, Int.reduceLE, Int.reduceToNat, Int.reduceEq, Int.reduceNe, Nat.reduceAdd, UInt8.reduceOfNat, UInt16.reduceOfNat, UInt32.reduceOfNat, UInt64.reduceOfNat, UInt64.reduceToNat, UInt32.reduceToNat, UInt16.reduceToNat, UInt8.reduceToNat, Int.reduceAdd, Int.reduceSub, Int.reduceMul, Nat.reduceMul, Qp0, Ql0, Qe0]
    exact ⟨_, PH.Le.refl _, hds, hev⟩
set_option maxRecDepth 20000 in
set_option maxHeartbeats 1000000 in
theorem read_any (hd : DS h0 h b d) (g : Good d) (i j : Int) : PCalls Tryd.prog w0 14 [.pointer (some ⟨b, 0, none⟩), .int .i64 i, .int .i64 j] h fun v h' => ∃ u, v = .tuple #[str (d.read i j).1, u] ∧ DS h0 h' b d ∧ ER h' u (d.read i j).2 := by
  refine PCalls_body Tryd.func14 (by kernel_rfl) rfl _ Tryd.ntmps14 (by kernel_rfl) (by kernel_rfl) _ Tryd.results14 ?_
  have hD := Lib.hid (down_any h0 b d w0 h hd)
  obtain ⟨A, c, hb, hr, hA⟩ := hd.cells
  unfold DKc at hb
  have glen := g.len
  cases hdn : d.down
  rotate_left
  · have ha : d.read i j = ([], some (5, 0)) := by unfold Dk.read; rw [if_pos hdn]
    rw [ha]
    have hB := bad_any h0 b d w0 h hd 5
    rw [show d.size = 0 by unfold Dk.size; rw [if_pos hdn]] at hB
    have hB := Lib.hid hB
    rw [hdn] at hD
    simp -dsimp -implicitDefEqProofs (disch := first | omega | assumption | (simp only [Option.isSome_some, Qt0]; done) | (simp only [UInt64.reduceToNat, UInt32.reduceToNat, UInt8.reduceToNat, List.length_cons, List.length_nil, List.length_append, Int.toNat_natCast] <;> omega) | fail) only [Nat.reduceLT, Nat.reduceLeDiff, Nat.reduceEqDiff, ↓reduceIte, Int.reduceLT, Int.reduceLE, Int.reduceToNat, Int.reduceEq, Int.reduceNe, Nat.reduceAdd, UInt8.reduceOfNat, UInt16.reduceOfNat, UInt32.reduceOfNat, UInt64.reduceOfNat, UInt64.reduceToNat, UInt32.reduceToNat, UInt16.reduceToNat, UInt8.reduceToNat, Int.reduceAdd, Int.reduceSub, Int.reduceMul, Nat.reduceMul, Qp0, Ql0, Qe0]
    refine hD.out.mono ?_
    rintro v hz ⟨rfl, hz⟩
    rw [hz]
    clear hz
    simp -dsimp -implicitDefEqProofs (disch := first | omega | assumption | (simp only [Option.isSome_some, Qt0]; done) | (simp only [UInt64.reduceToNat, UInt32.reduceToNat, UInt8.reduceToNat, List.length_cons, List.length_nil, List.length_append, Int.toNat_natCast] <;> omega) | fail) only [Nat.reduceLT, Nat.reduceLeDiff, Nat.reduceEqDiff, ↓reduceIte, Int.reduceLT, Int.reduceLE, Int.reduceToNat, Int.reduceEq, Int.reduceNe, Nat.reduceAdd, UInt8.reduceOfNat, UInt16.reduceOfNat, UInt32.reduceOfNat, UInt64.reduceOfNat, UInt64.reduceToNat, UInt32.reduceToNat, UInt16.reduceToNat, UInt8.reduceToNat, Int.reduceAdd, Int.reduceSub, Int.reduceMul, Nat.reduceMul, Qp0, Ql0, Qe0]
    refine hB.out.mono ?_
    rintro v hz ⟨be, rfl, hbe, rfl⟩
    simp -dsimp -implicitDefEqProofs (disch := first | omega | assumption | (simp only [Option.isSome_some, Qt0]; done) | (simp only [UInt64.reduceToNat, UInt32.reduceToNat, UInt8.reduceToNat, List.length_cons, List.length_nil, List.length_append, Int.toNat_natCast] <;> omega) | fail) only [Nat.reduceLT, Nat.reduceLeDiff, Nat.reduceEqDiff, ↓reduceIte, Int.reduceLT, Int.reduceLE, Int.reduceToNat, Int.reduceEq, Int.reduceNe, Nat.reduceAdd, UInt8.reduceOfNat, UInt16.reduceOfNat, UInt32.reduceOfNat, UInt64.reduceOfNat, UInt64.reduceToNat, UInt32.reduceToNat, UInt16.reduceToNat, UInt8.reduceToNat, Int.reduceAdd, Int.reduceSub, Int.reduceMul, Nat.reduceMul, Qp0, Ql0, Qe0]
    exact ⟨_, PH.Le.refl _, _, rfl, hd.more hbe, EV.at (show EV _ (.code 5) (codeV 5) from rfl) hbe⟩
  have hB := bad_any h0 b d w0 h hd 1
  rw [show d.size = d.l.length by unfold Dk.size; rw [hdn]; rfl] at hB
  have hB := Lib.hid hB
  rw [hdn] at hD hb
  have hnd : ¬ d.down = true := by rw [hdn]; decide
  by_cases hbad : i < 0 ∨ j < i ∨ (d.l.length : Int) < j
  · have ha : d.read i j = ([], some (1, (d.l.length : Int))) := by unfold Dk.read; rw [if_neg hnd, if_pos hbad]
    rw [ha]
    by_cases h1 : i < 0
    · have e1 := decide_eq_true h1
      simp -dsimp -implicitDefEqProofs (disch := first | omega | assumption | (simp only [Option.isSome_some, Qt0]; done) | (simp only [UInt64.reduceToNat, UInt32.reduceToNat, UInt8.reduceToNat, List.length_cons, List.length_nil, List.length_append, Int.toNat_natCast] <;> omega) | fail) only [Nat.reduceLT, Nat.reduceLeDiff, Nat.reduceEqDiff, ↓reduceIte, Int.reduceLT, Int.reduceLE, Int.reduceToNat, Int.reduceEq, Int.reduceNe, Nat.reduceAdd, UInt8.reduceOfNat, UInt16.reduceOfNat, UInt32.reduceOfNat, UInt64.reduceOfNat, UInt64.reduceToNat, UInt32.reduceToNat, UInt16.reduceToNat, UInt8.reduceToNat, Int.reduceAdd, Int.reduceSub, Int.reduceMul, Nat.reduceMul, Qp0, Ql0, Qe0]
      refine hD.out.mono ?_
      rintro v hz ⟨rfl, hz⟩
      rw [hz]
      clear hz
      simp -dsimp -implicitDefEqProofs (disch := first | omega | assumption | (simp only [Option.isSome_some, Qt0]; done) | (simp only [UInt64.reduceToNat, UInt32.reduceToNat, UInt8.reduceToNat, List.length_cons, List.length_nil, List.length_append, Int.toNat_natCast] <;> omega) | fail) only [Nat.reduceLT, Nat.reduceLeDiff, Nat.reduceEqDiff, ↓reduceIte, Int.reduceLT, Int.reduceLE, Int.reduceToNat, Int.reduceEq, Int.reduceNe, Nat.reduceAdd, UInt8.reduceOfNat, UInt16.reduceOfNat, UInt32.reduceOfNat, UInt64.reduceOfNat, UInt64.reduceToNat, UInt32.reduceToNat, UInt16.reduceToNat, UInt8.reduceToNat, Int.reduceAdd, Int.reduceSub, Int.reduceMul, Nat.reduceMul, Qp0, Ql0, Qe0, e1]
      refine hB.out.mono ?_
      rintro v hz ⟨be, rfl, hbe, rfl⟩
      simp -dsimp -implicitDefEqProofs (disch := first | omega | assumption | (simp only [Option.isSome_some, Qt0]; done) | (simp only [UInt64.reduceToNat, UInt32.reduceToNat, UInt8.reduceToNat, List.length_cons, List.length_nil, List.length_append, Int.toNat_natCast] <;> omega) | fail) only [Nat.reduceLT, Nat.reduceLeDiff, Nat.reduceEqDiff, ↓reduceIte, Int.reduceLT, Int.reduceLE, Int.reduceToNat, Int.reduceEq, Int.reduceNe, Nat.reduceAdd, UInt8.reduceOfNat, UInt16.reduceOfNat, UInt32.reduceOfNat, UInt64.reduceOfNat, UInt64.reduceToNat, UInt32.reduceToNat, UInt16.reduceToNat, UInt8.reduceToNat, Int.reduceAdd, Int.reduceSub, Int.reduceMul, Nat.reduceMul, Qp0, Ql0, Qe0]
      exact ⟨_, PH.Le.refl _, _, rfl, hd.more hbe, EV.at (show EV _ (.code 1) (codeV 1) from rfl) hbe⟩
    have e1 := decide_eq_false h1
    by_cases h2 : j < i
    · have e2 := decide_eq_true h2
      simp -dsimp -implicitDefEqProofs (disch := first | omega | assumption | (simp only [Option.isSome_some, Qt0]; done) | (simp only [UInt64.reduceToNat, UInt32.reduceToNat, UInt8.reduceToNat, List.length_cons, List.length_nil, List.length_append, Int.toNat_natCast] <;> omega) | fail) only [Nat.reduceLT, Nat.reduceLeDiff, Nat.reduceEqDiff, ↓reduceIte, Int.reduceLT, Int.reduceLE, Int.reduceToNat, Int.reduceEq, Int.reduceNe, Nat.reduceAdd, UInt8.reduceOfNat, UInt16.reduceOfNat, UInt32.reduceOfNat, UInt64.reduceOfNat, UInt64.reduceToNat, UInt32.reduceToNat, UInt16.reduceToNat, UInt8.reduceToNat, Int.reduceAdd, Int.reduceSub, Int.reduceMul, Nat.reduceMul, Qp0, Ql0, Qe0]
      refine hD.out.mono ?_
      rintro v hz ⟨rfl, hz⟩
      rw [hz]
      clear hz
      simp -dsimp -implicitDefEqProofs (disch := first | omega | assumption | (simp only [Option.isSome_some, Qt0]; done) | (simp only [UInt64.reduceToNat, UInt32.reduceToNat, UInt8.reduceToNat, List.length_cons, List.length_nil, List.length_append, Int.toNat_natCast] <;> omega) | fail) only [Nat.reduceLT, Nat.reduceLeDiff, Nat.reduceEqDiff, ↓reduceIte, Int.reduceLT, Int.reduceLE, Int.reduceToNat, Int.reduceEq, Int.reduceNe, Nat.reduceAdd, UInt8.reduceOfNat, UInt16.reduceOfNat, UInt32.reduceOfNat, UInt64.reduceOfNat, UInt64.reduceToNat, UInt32.reduceToNat, UInt16.reduceToNat, UInt8.reduceToNat, Int.reduceAdd, Int.reduceSub, Int.reduceMul, Nat.reduceMul, Qp0, Ql0, Qe0, e1, e2]
      refine hB.out.mono ?_
      rintro v hz ⟨be, rfl, hbe, rfl⟩
      simp -dsimp -implicitDefEqProofs (disch := first | omega | assumption | (simp only [Option.isSome_some, Qt0]; done) | (simp only [UInt64.reduceToNat, UInt32.reduceToNat, UInt8.reduceToNat, List.length_cons, List.length_nil, List.length_append, Int.toNat_natCast] <;> omega) | fail) only [Nat.reduceLT, Nat.reduceLeDiff, Nat.reduceEqDiff, ↓reduceIte, Int.reduceLT, Int.reduceLE, Int.reduceToNat, Int.reduceEq, Int.reduceNe, Nat.reduceAdd, UInt8.reduceOfNat, UInt16.reduceOfNat, UInt32.reduceOfNat, UInt64.reduceOfNat, UInt64.reduceToNat, UInt32.reduceToNat, UInt16.reduceToNat, UInt8.reduceToNat, Int.reduceAdd, Int.reduceSub, Int.reduceMul, Nat.reduceMul, Qp0, Ql0, Qe0]
      exact ⟨_, PH.Le.refl _, _, rfl, hd.more hbe, EV.at (show EV _ (.code 1) (codeV 1) from rfl) hbe⟩
    have e2 := decide_eq_false h2
    have e3 : decide ((d.l.length : Int) < j) = true := decide_eq_true (by omega)
    simp -dsimp -implicitDefEqProofs (disch := first | omega | assumption | (simp only [Option.isSome_some, Qt0]; done) | (simp only [UInt64.reduceToNat, UInt32.reduceToNat, UInt8.reduceToNat, List.length_cons, List.length_nil, List.length_append, Int.toNat_natCast] <;> omega) | fail) only [Nat.reduceLT, Nat.reduceLeDiff, Nat.reduceEqDiff, ↓reduceIte, Int.reduceLT, Int.reduceLE, Int.reduceToNat, Int.reduceEq, Int.reduceNe, Nat.reduceAdd, UInt8.reduceOfNat, UInt16.reduceOfNat, UInt32.reduceOfNat, UInt64.reduceOfNat, UInt64.reduceToNat, UInt32.reduceToNat, UInt16.reduceToNat, UInt8.reduceToNat, Int.reduceAdd, Int.reduceSub, Int.reduceMul, Nat.reduceMul, Qp0, Ql0, Qe0]
    refine hD.out.mono ?_
    rintro v hz ⟨rfl, hz⟩
    rw [hz]
    clear hz
    simp -dsimp -implicitDefEqProofs (disch := first | omega | assumption | (simp only [Option.isSome_some, Qt0]; done) | (simp only [UInt64.reduceToNat, UInt32.reduceToNat, UInt8.reduceToNat, List.length_cons, List.length_nil, List.length_append, Int.toNat_natCast] <;> omega) | fail) only [Nat.reduceLT, Nat.reduceLeDiff, Nat.reduceEqDiff, ↓reduceIte, Int.reduceLT, Int.reduceLE, Int.reduceToNat, Int.reduceEq, Int.reduceNe, Nat.reduceAdd, UInt8.reduceOfNat, UInt16.reduceOfNat, UInt32.reduceOfNat, UInt64.reduceOfNat, UInt64.reduceToNat, UInt32.reduceToNat, UInt16.reduceToNat, UInt8.reduceToNat, Int.reduceAdd, Int.reduceSub, Int.reduceMul, Nat.reduceMul, Qp0, Ql0, Qe0, e1, e2, rd_M, rdM_some, hb, e3]
    refine hB.out.mono ?_
    rintro v hz ⟨be, rfl, hbe, rfl⟩
    simp -dsimp -implicitDefEqProofs (disch := first | omega | assumption | (simp only [Option.isSome_some, Qt0]; done) | (simp only [UInt64.reduceToNat, UInt32.reduceToNat, UInt8.reduceToNat, List.length_cons, List.length_nil, List.length_append, Int.toNat_natCast] <;> omega) | fail) only [Nat.reduceLT, Nat.reduceLeDiff, Nat.reduceEqDiff, ↓reduceIte, Int.reduceLT, Int.reduceLE, Int.reduceToNat, Int.reduceEq, Int.reduceNe, Nat.reduceAdd, UInt8.reduceOfNat, UInt16.reduceOfNat, UInt32.reduceOfNat, UInt64.reduceOfNat, UInt64.reduceToNat, UInt32.reduceToNat, UInt16.reduceToNat, UInt8.reduceToNat, Int.reduceAdd, Int.reduceSub, Int.reduceMul, Nat.reduceMul, Qp0, Ql0, Qe0]
    exact ⟨_, PH.Le.refl _, _, rfl, hd.more hbe, EV.at (show EV _ (.code 1) (codeV 1) from rfl) hbe⟩
  have ha : d.read i j = ((d.l.drop i.toNat).take (j.toNat - i.toNat), none) := by unfold Dk.read; rw [if_neg hnd, if_neg hbad]
  rw [ha]
  have e1 : decide (i < 0) = false := decide_eq_false (by omega)
  have e2 : decide (j < i) = false := decide_eq_false (by omega)
  have e3 : decide ((d.l.length : Int) < j) = false := decide_eq_false (by omega)
  obtain ⟨p, rfl⟩ := Int.eq_ofNat_of_zero_le (show 0 ≤ i by omega)
  obtain ⟨q, rfl⟩ := Int.eq_ofNat_of_zero_le (show 0 ≤ j by omega)
  have hpt : ((p : Int)).toNat = p := Int.toNat_natCast p
  have hqt : ((q : Int)).toNat = q := Int.toNat_natCast q
  rw [hpt, hqt]
  rcases hr with ⟨rfl, hl, rfl⟩ | ⟨bl, X, lim, rfl, r1, r2, r3, r4, r5, r6⟩
  · obtain rfl : q = 0 := by rw [hl] at hbad; simp at hbad; omega
    obtain rfl : p = 0 := by omega
    rw [hl] at hb e3
    simp -dsimp -implicitDefEqProofs (disch := first | omega | assumption | (simp only [Option.isSome_some, Qt0]; done) | (simp only [UInt64.reduceToNat, UInt32.reduceToNat, UInt8.reduceToNat, List.length_cons, List.length_nil, List.length_append, Int.toNat_natCast] <;> omega) | fail) only [Nat.reduceLT, Nat.reduceLeDiff, Nat.reduceEqDiff, ↓reduceIte, Int.reduceLT, Int.reduceLE, Int.reduceToNat, Int.reduceEq, Int.reduceNe, Nat.reduceAdd, UInt8.reduceOfNat, UInt16.reduceOfNat, UInt32.reduceOfNat, UInt64.reduceOfNat, UInt64.reduceToNat, UInt32.reduceToNat, UInt16.reduceToNat, UInt8.reduceToNat, Int.reduceAdd, Int.reduceSub, Int.reduceMul, Nat.reduceMul, Qp0, Ql0, Qe0]
    refine hD.out.mono ?_
    rintro v hz ⟨rfl, hz⟩
    rw [hz]
    clear hz
    simp -dsimp -implicitDefEqProofs (disch := first | omega | assumption | (simp only [Option.isSome_some, Qt0]; done) | (simp only [UInt64.reduceToNat, UInt32.reduceToNat, UInt8.reduceToNat, List.length_cons, List.length_nil, List.length_append, Int.toNat_natCast] <;> omega) | fail) only [Nat.reduceLT, Nat.reduceLeDiff, Nat.reduceEqDiff, ↓reduceIte, Int.reduceLT, Int.reduceLE, Int.reduceToNat, Int.reduceEq, Int.reduceNe, Nat.reduceAdd, UInt8.reduceOfNat, UInt16.reduceOfNat, UInt32.reduceOfNat, UInt64.reduceOfNat, UInt64.reduceToNat, UInt32.reduceToNat, UInt16.reduceToNat, UInt8.reduceToNat, Int.reduceAdd, Int.reduceSub, Int.reduceMul, Nat.reduceMul, Qp0, Ql0, Qe0, e1, e2, rd_M, rdM_some, hb, e3, y_midnil]
    refine vtext_own (l := []) Tryd.underlying46 Tryd.underlying5 Tryd.underlying9 (Rs.nil w0 _ 1 none) (fun _ => rfl) ?_
    simp -dsimp -implicitDefEqProofs (disch := first | omega | assumption | (simp only [Option.isSome_some, Qt0]; done) | (simp only [UInt64.reduceToNat, UInt32.reduceToNat, UInt8.reduceToNat, List.length_cons, List.length_nil, List.length_append, Int.toNat_natCast] <;> omega) | fail) only [Nat.reduceLT, Nat.reduceLeDiff, Nat.reduceEqDiff, ↓reduceIte, Int.reduceLT, Int.reduceLE, Int.reduceToNat, Int.reduceEq, Int.reduceNe, Nat.reduceAdd, UInt8.reduceOfNat, UInt16.reduceOfNat, UInt32.reduceOfNat, UInt64.reduceOfNat, UInt64.reduceToNat, UInt32.reduceToNat, UInt16.reduceToNat, UInt8.reduceToNat, Int.reduceAdd, Int.reduceSub, Int.reduceMul, Nat.reduceMul, Qp0, Ql0, Qe0]
    refine ⟨_, PH.Le.refl _, _, ?_, hd, rfl⟩
    simp
  · have hRs := Rs_cut (w0 := w0) (i := p) (j := q) r3 r4 r5 r1 (by omega) (by omega)
    have hne : cutAt bl 0 p (decide (c = p)) ≠ none := by unfold cutAt; simp
    simp -dsimp -implicitDefEqProofs (disch := first | omega | assumption | (simp only [Option.isSome_some, Qt0]; done) | (simp only [UInt64.reduceToNat, UInt32.reduceToNat, UInt8.reduceToNat, List.length_cons, List.length_nil, List.length_append, Int.toNat_natCast] <;> omega) | fail) only [Nat.reduceLT, Nat.reduceLeDiff, Nat.reduceEqDiff, ↓reduceIte, Int.reduceLT, Int.reduceLE, Int.reduceToNat, Int.reduceEq, Int.reduceNe, Nat.reduceAdd, UInt8.reduceOfNat, UInt16.reduceOfNat, UInt32.reduceOfNat, UInt64.reduceOfNat, UInt64.reduceToNat, UInt32.reduceToNat, UInt16.reduceToNat, UInt8.reduceToNat, Int.reduceAdd, Int.reduceSub, Int.reduceMul, Nat.reduceMul, Qp0, Ql0, Qe0]
    refine hD.out.mono ?_
    rintro v hz ⟨rfl, hz⟩
    rw [hz]
    clear hz
    simp -dsimp -implicitDefEqProofs (disch := first | omega | assumption | (simp only [Option.isSome_some, Qt0]; done) | (simp only [UInt64.reduceToNat, UInt32.reduceToNat, UInt8.reduceToNat, List.length_cons, List.length_nil, List.length_append, Int.toNat_natCast] <;> omega) | fail) only [Nat.reduceLT, Nat.reduceLeDiff, Nat.reduceEqDiff, ↓reduceIte, Int.reduceLT, Int.reduceLE, Int.reduceToNat, Int.reduceEq, Int.reduceNe, Nat.reduceAdd, UInt8.reduceOfNat, UInt16.reduceOfNat, UInt32.reduceOfNat, UInt64.reduceOfNat, UInt64.reduceToNat, UInt32.reduceToNat, UInt16.reduceToNat, UInt8.reduceToNat, Int.reduceAdd, Int.reduceSub, Int.reduceMul, Nat.reduceMul, Qp0, Ql0, Qe0, e1, e2, rd_M, rdM_some, hb, e3]
    refine vtext_own Tryd.underlying46 Tryd.underlying5 Tryd.underlying9 hRs (fun e => absurd e hne) ?_
    simp -dsimp -implicitDefEqProofs (disch := first | omega | assumption | (simp only [Option.isSome_some, Qt0]; done) | (simp only [UInt64.reduceToNat, UInt32.reduceToNat, UInt8.reduceToNat, List.length_cons, List.length_nil, List.length_append, Int.toNat_natCast] <;> omega) | fail) only [Nat.reduceLT, Nat.reduceLeDiff, Nat.reduceEqDiff, ↓reduceIte, Int.reduceLT, Int.reduceLE, Int.reduceToNat, Int.reduceEq, Int.reduceNe, Nat.reduceAdd, UInt8.reduceOfNat, UInt16.reduceOfNat, UInt32.reduceOfNat, UInt64.reduceOfNat, UInt64.reduceToNat, UInt32.reduceToNat, UInt16.reduceToNat, UInt8.reduceToNat, Int.reduceAdd, Int.reduceSub, Int.reduceMul, Nat.reduceMul, Qp0, Ql0, Qe0]
    exact ⟨_, PH.Le.refl _, _, rfl, hd, rfl⟩
set_option maxRecDepth 20000 in
set_option maxHeartbeats 1000000 in
theorem room_any (hd : DS h0 h b d) (n : Int) (hn : 0 ≤ n ∧ n ≤ 1048576) : PCalls Tryd.prog w0 16 [.pointer (some ⟨b, 0, none⟩), .int .i64 n] h fun v h' => v = .nilIface ∧ DS h0 h' b { d with room := n } := by
  refine PCalls_body Tryd.func16 (by kernel_rfl) rfl _ Tryd.ntmps16 (by kernel_rfl) (by kernel_rfl) _ Tryd.results16 ?_
  obtain ⟨A, c, hb, hr, hA⟩ := hd.cells
  unfold DKc at hb
  have e1 : decide (n < 0) = false := decide_eq_false (by omega)
  have e2 : decide (1048576 < n) = false := decide_eq_false (by omega)
  have hnew := hd.upd (d' := { d with room := n }) hr hA
  unfold DKc at hnew
  simp -dsimp -implicitDefEqProofs (disch := first | omega | assumption | (simp only [Option.isSome_some, Qt0]; done) | (simp only [UInt64.reduceToNat, UInt32.reduceToNat, UInt8.reduceToNat, List.length_cons, List.length_nil, List.length_append, Int.toNat_natCast] <;> omega) | fail) only [Nat.reduceLT, Nat.reduceLeDiff, Nat.reduceEqDiff, ↓reduceIte, Int.reduceLT, Int.reduceLE, Int.reduceToNat, Int.reduceEq, Int.reduceNe, Nat.reduceAdd, UInt8.reduceOfNat, UInt16.reduceOfNat, UInt32.reduceOfNat, UInt64.reduceOfNat, UInt64.reduceToNat, UInt32.reduceToNat, UInt16.reduceToNat, UInt8.reduceToNat, Int.reduceAdd, Int.reduceSub, Int.reduceMul, Nat.reduceMul, Qp0, Ql0, Qe0, e1, e2, rd_M, rdM_some, hb, List.set_cons_zero, List.set_cons_succ]
  exact ⟨_, PH.Le.refl _, by trivial, hnew⟩
set_option maxRecDepth 20000 in
set_option maxHeartbeats 1000000 in
theorem fuse_any (hd : DS h0 h b d) (n : Int) : PCalls Tryd.prog w0 27 [.pointer (some ⟨b, 0, none⟩), .int .i64 n] h fun v h' => DS h0 h' b { d with fuse := if -1 > n then -1 else n } := by
  refine PCalls_body Tryd.func27 (by kernel_rfl) rfl _ Tryd.ntmps27 (by kernel_rfl) (by kernel_rfl) _ Tryd.results27 ?_
  obtain ⟨A, c, hb, hr, hA⟩ := hd.cells
  unfold DKc at hb
  have hnew := hd.upd (d' := { d with fuse := if -1 > n then -1 else n }) hr hA
  unfold DKc at hnew
  obtain ⟨F, hF⟩ : ∃ F, F = (if -1 > n then -1 else n) := ⟨_, rfl⟩
  rw [← hF] at hnew ⊢
  simp -dsimp -implicitDefEqProofs (disch := first | omega | assumption | (simp only [Option.isSome_some, Qt0]; done) | (simp only [UInt64.reduceToNat, UInt32.reduceToNat, UInt8.reduceToNat, List.length_cons, List.length_nil, List.length_append, Int.toNat_natCast] <;> omega) | fail) only [Nat.reduceLT, Nat.reduceLeDiff, Nat.reduceEqDiff, ↓reduceIte, Int.reduceLT, Int.reduceLE, Int.reduceToNat, Int.reduceEq, Int.reduceNe, Nat.reduceAdd, UInt8.reduceOfNat, UInt16.reduceOfNat, UInt32.reduceOfNat, UInt64.reduceOfNat, UInt64.reduceToNat, UInt32.reduceToNat, UInt16.reduceToNat, UInt8.reduceToNat, Int.reduceAdd, Int.reduceSub, Int.reduceMul, Nat.reduceMul, Qp0, Ql0, Qe0, hF.symm, rd_M, rdM_some, hb, List.set_cons_zero, List.set_cons_succ]
  exact ⟨_, PH.Le.refl _, hnew⟩
set_option maxRecDepth 20000 in
set_option maxHeartbeats 1000000 in
theorem fuse_nil (n : Int) : PCalls Tryd.prog w0 27 [.pointer none, .int .i64 n] h fun v h' => h' = h := by
  refine PCalls_body Tryd.func27 (by kernel_rfl) rfl _ Tryd.ntmps27 (by kernel_rfl) (by kernel_rfl) _ Tryd.results27 ?_
  simp -dsimp -implicitDefEqProofs (disch := first | omega | assumption | (simp only [Option.isSome_some, Qt0]; done) | (simp only [UInt64.reduceToNat, UInt32.reduceToNat, UInt8.reduceToNat, List.length_cons, List.length_nil, List.length_append, Int.toNat_natCast] <;> omega) | fail) only [Nat.reduceLT, Nat.reduceLeDiff, Nat.reduceEqDiff, ↓reduceIte, Int.reduceLT, Int.reduceLE, Int.reduceToNat, Int.reduceEq, Int.reduceNe, Nat.reduceAdd, UInt8.reduceOfNat, UInt16.reduceOfNat, UInt32.reduceOfNat, UInt64.reduceOfNat, UInt64.reduceToNat, UInt32.reduceToNat, UInt16.reduceToNat, UInt8.reduceToNat, Int.reduceAdd, Int.reduceSub, Int.reduceMul, Nat.reduceMul, Qp0, Ql0, Qe0]
  exact ⟨_, PH.Le.refl _, rfl⟩
set_option maxRecDepth 20000 in
set_option maxHeartbeats 1000000 in
theorem crash_nil (n : Int) (s : List UInt8) : PCalls Tryd.prog w0 13 [.pointer none, .int .i64 n, str s] h fun v h' => h' = h := by
  refine PCalls_body Tryd.func13 (by kernel_rfl) rfl _ Tryd.ntmps13 (by kernel_rfl) (by kernel_rfl) _ Tryd.results13 ?_
  simp -dsimp -implicitDefEqProofs (disch := first | omega | assumption | (simp only [Option.isSome_some, Qt0]; done) | (simp only [UInt64.reduceToNat, UInt32.reduceToNat, UInt8.reduceToNat, List.length_cons, List.length_nil, List.length_append, Int.toNat_natCast] <;> omega) | fail) only [Nat.reduceLT, Nat.reduceLeDiff, Nat.reduceEqDiff, ↓reduceIte, Int.reduceLT, Int.reduceLE, Int.reduceToNat, Int.reduceEq, Int.reduceNe, Nat.reduceAdd, UInt8.reduceOfNat, UInt16.reduceOfNat, UInt32.reduceOfNat, UInt64.reduceOfNat, UInt64.reduceToNat, UInt32.reduceToNat, UInt16.reduceToNat, UInt8.reduceToNat, Int.reduceAdd, Int.reduceSub, Int.reduceMul, Nat.reduceMul, Qp0, Ql0, Qe0]
  exact ⟨_, PH.Le.refl _, rfl⟩
end
end Go.Proofs.YtcjojkhieocehaaDoor
