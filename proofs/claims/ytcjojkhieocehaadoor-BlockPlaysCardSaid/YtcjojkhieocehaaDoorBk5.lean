/- Walks of the device's crash, of New, and of the calls on a device that isn't there. -/
import Derived.Test.YtcjojkhieocehaaDoorBk4
namespace Go.Proofs.YtcjojkhieocehaaDoor
set_option linter.unusedVariables false
set_option linter.unusedSimpArgs false
open Go.RowKit Px
theorem y_remT {P : Program} {t : TypeId} {x y : Operand} {K : Value → Prop} (a b : Int) (hb : 0 < b) (h1 : b ≤ 9223372036854775807) : Yld P (binS .rem t x y (.int .i64 a) (.int .i64 b)) K = K (.int .i64 (a.tmod b)) := Yld_eq fun w => by
  have h2 : a.tmod b < b := Int.tmod_lt_of_pos a hb
  have h3 : -b < a.tmod b := by
    have := Int.lt_tmod_of_pos a hb
    omega
  rw [binS_int]
  simp [binOp, Op.intDiv, show ¬ b = 0 by omega, Sem.run_pure]
theorem DS.row {h0 h : PH} {b : Nat} {d : Dk} {bl c lim : Nat} {X : List Value} (hd : DS h0 h b d) (hb : h.m b = some ⟨DKc (some ⟨bl, 0, none⟩) c d, 5⟩) (hA : h0.m bl = none ∧ bl ≠ b) (h1 : d.l.length ≤ c) (h2 : c ≤ maxLen) (h4 : d.l.length ≤ X.length) (h5 : X.take d.l.length = bs d.l) (h6 : c ≤ lim) (j : Nat) (x : UInt8) (hj : j < d.l.length) :
    DS h0 (h.new bl ⟨X.set j (u8 x), lim⟩) b { d with l := d.l.set j x } := by
  refine ⟨by simp only [PH.new_top]; have := hd.top; omega, hd.low, fun y k e => by rw [PH.new_m, if_neg (fun q => by subst q; rw [hA.1] at e; cases e)]; exact hd.same y k e, some ⟨bl, 0, none⟩, c, ?_, .inr ⟨bl, X.set j (u8 x), lim, rfl, by simp; omega, h2, by rw [PH.new_m, if_pos rfl], by simp; omega, ?_, h6⟩, fun a e => by cases e; exact hA⟩
  · rw [PH.new_m, if_neg (by omega), hb]
    unfold DKc; simp
  · rw [List.length_set, List.take_set, h5]
    simp [bs]
theorem lost_nil (i : Nat) : lost [] i = false := rfl
section
variable (h0 : PH) (b : Nat) (d : Dk) (w0 : World) (h : PH)
set_option maxRecDepth 20000 in
set_option maxHeartbeats 1000000 in
theorem crash_any (hd : DS h0 h b d) (g : Good d) (k : Int) (mask : List UInt8) (hmk : mask.length ≤ 1000000) : PCalls Tryd.prog w0 13 [.pointer (some ⟨b, 0, none⟩), .int .i64 k, str mask] h fun v h' => DS h0 h' b (d.crash k mask) := by
  refine PCalls_body Tryd.func13 (by kernel_rfl) rfl _ Tryd.ntmps13 (by kernel_rfl) (by kernel_rfl) _ Tryd.results13 ?_
  obtain ⟨A, c, hb, hr, hA⟩ := hd.cells
  unfold DKc at hb
  have glen := g.len
  have gs0 := g.safe0
  have gs1 := g.safe1
  obtain ⟨by_, hby⟩ : ∃ x, x = (d.l.length : Int) - d.safe + 1 := ⟨_, rfl⟩
  have hby' := hby.symm
  obtain ⟨r1, hr1⟩ : ∃ x, x = k.tmod by_ := ⟨_, rfl⟩
  have hr1b : -by_ < r1 ∧ r1 < by_ := by rw [hr1]; exact ⟨by have := Int.lt_tmod_of_pos k (show 0 < by_ by omega); omega, Int.tmod_lt_of_pos k (by omega)⟩
  have hrem : ∀ {t : TypeId} {x y : Operand} {K : Value → Prop}, Yld Tryd.prog (binS .rem t x y (.int .i64 k) (.int .i64 by_)) K = K (.int .i64 r1) := fun {t x y K} => by rw [hr1]; exact y_remT k by_ (by omega) (by omega)
  have hkept : d.kept k = (r1 + by_) % by_ := by unfold Dk.kept; rw [← hby, ← hr1]
  obtain ⟨n, hn⟩ : ∃ n : Nat, (r1 + by_) % by_ = (n : Int) := ⟨((r1 + by_) % by_).toNat, by have := Int.emod_nonneg (r1 + by_) (show by_ ≠ 0 by omega); omega⟩
  have hnb : (n : Int) < by_ := by rw [← hn]; exact Int.emod_lt_of_pos _ (by omega)
  obtain ⟨sf, hsf⟩ : ∃ s : Nat, d.safe = (s : Int) := ⟨d.safe.toNat, by omega⟩
  have hcr : d.crash k mask = { l := (zl mask sf d.l n).take (sf + n), safe := (sf : Int) + n, room := d.room, fuse := -1, down := false } := by
    unfold Dk.crash
    rw [hkept, hn, hsf]
    congr 2 <;> omega
  rw [hcr]
  clear hcr hkept hr1
  rw [hsf] at hb hby'
  have hbyw : (d.l.length : Int) - (sf : Int) + 1 = by_ := hby'
  simp -dsimp -implicitDefEqProofs (disch := first | omega | assumption | (simp only [Option.isSome_some, Qt0]; done) | (simp only [UInt64.reduceToNat, UInt32.reduceToNat, UInt8.reduceToNat, List.length_cons, List.length_nil, List.length_append, Int.toNat_natCast] <;> omega) | fail) only [Nat.reduceLT, Nat.reduceLeDiff, Nat.reduceEqDiff, ↓reduceIte, Int.reduceLT, Int.reduceLE, Int.reduceToNat, Int.reduceEq, Int.reduceNe, Nat.reduceAdd, UInt8.reduceOfNat, UInt16.reduceOfNat, UInt32.reduceOfNat, UInt64.reduceOfNat, UInt64.reduceToNat, UInt32.reduceToNat, UInt16.reduceToNat, UInt8.reduceToNat, Int.reduceAdd, Int.reduceSub, Int.reduceMul, Nat.reduceMul, Qp0, Ql0, Qe0]
  refine PW_plan [0, 1, 2, 3, 4, 5, 6, 7, 8, 9, 10, 11] h (by kernel_rfl) (by decide +kernel) (by kernel_rfl) (by kernel_rfl) (by kernel_rfl) (fun c f h hq => by simp only [thenC_panic, thenK_panic, inBlk_panic, thenN_panic, vcRet_panic] at hq) (PH.Le.refl _).sub ?_
  simp -dsimp -implicitDefEqProofs (disch := first | omega | assumption | (simp only [Option.isSome_some, Qt0]; done) | (simp only [UInt64.reduceToNat, UInt32.reduceToNat, UInt8.reduceToNat, List.length_cons, List.length_nil, List.length_append, Int.toNat_natCast] <;> omega) | fail) only [Nat.reduceLT, Nat.reduceLeDiff, Nat.reduceEqDiff, ↓reduceIte, Int.reduceLT, Int.reduceLE, Int.reduceToNat, Int.reduceEq, Int.reduceNe, Nat.reduceAdd, UInt8.reduceOfNat, UInt16.reduceOfNat, UInt32.reduceOfNat, UInt64.reduceOfNat, UInt64.reduceToNat, UInt32.reduceToNat, UInt16.reduceToNat, UInt8.reduceToNat, Int.reduceAdd, Int.reduceSub, Int.reduceMul, Nat.reduceMul, Qp0, Ql0, Qe0, rd_M, rdM_some, hb, hbyw, hrem, hn]
  refine PW_loop (fun m f h' => ∃ i : Nat, i + m = n ∧ f 0 = some (.pointer (some ⟨b, 0, none⟩)) ∧ f 2 = some (str mask) ∧ f 7 = some (.int .i64 n) ∧ f 29 = some (.int .i64 n) ∧ f 30 = some (.int .i64 i) ∧ DS h0 h' b { d with l := zl mask sf d.l i }) (by kernel_rfl) n ⟨0, by omega, ?_, ?_, ?_, ?_, ?_, hd⟩ ?_
  · simp -dsimp -implicitDefEqProofs (disch := first | omega | assumption | (simp only [Option.isSome_some, Qt0]; done) | (simp only [UInt64.reduceToNat, UInt32.reduceToNat, UInt8.reduceToNat, List.length_cons, List.length_nil, List.length_append, Int.toNat_natCast] <;> omega) | fail) only [Nat.reduceLT, Nat.reduceLeDiff, Nat.reduceEqDiff, ↓reduceIte, Int.reduceLT, Int.reduceLE, Int.reduceToNat, Int.reduceEq, Int.reduceNe, Nat.reduceAdd, UInt8.reduceOfNat, UInt16.reduceOfNat, UInt32.reduceOfNat, UInt64.reduceOfNat, UInt64.reduceToNat, UInt32.reduceToNat, UInt16.reduceToNat, UInt8.reduceToNat, Int.reduceAdd, Int.reduceSub, Int.reduceMul, Nat.reduceMul, Qp0, Ql0, Qe0]
  · simp -dsimp -implicitDefEqProofs (disch := first | omega | assumption | (simp only [Option.isSome_some, Qt0]; done) | (simp only [UInt64.reduceToNat, UInt32.reduceToNat, UInt8.reduceToNat, List.length_cons, List.length_nil, List.length_append, Int.toNat_natCast] <;> omega) | fail) only [Nat.reduceLT, Nat.reduceLeDiff, Nat.reduceEqDiff, ↓reduceIte, Int.reduceLT, Int.reduceLE, Int.reduceToNat, Int.reduceEq, Int.reduceNe, Nat.reduceAdd, UInt8.reduceOfNat, UInt16.reduceOfNat, UInt32.reduceOfNat, UInt64.reduceOfNat, UInt64.reduceToNat, UInt32.reduceToNat, UInt16.reduceToNat, UInt8.reduceToNat, Int.reduceAdd, Int.reduceSub, Int.reduceMul, Nat.reduceMul, Qp0, Ql0, Qe0]
  · simp -dsimp -implicitDefEqProofs (disch := first | omega | assumption | (simp only [Option.isSome_some, Qt0]; done) | (simp only [UInt64.reduceToNat, UInt32.reduceToNat, UInt8.reduceToNat, List.length_cons, List.length_nil, List.length_append, Int.toNat_natCast] <;> omega) | fail) only [Nat.reduceLT, Nat.reduceLeDiff, Nat.reduceEqDiff, ↓reduceIte, Int.reduceLT, Int.reduceLE, Int.reduceToNat, Int.reduceEq, Int.reduceNe, Nat.reduceAdd, UInt8.reduceOfNat, UInt16.reduceOfNat, UInt32.reduceOfNat, UInt64.reduceOfNat, UInt64.reduceToNat, UInt32.reduceToNat, UInt16.reduceToNat, UInt8.reduceToNat, Int.reduceAdd, Int.reduceSub, Int.reduceMul, Nat.reduceMul, Qp0, Ql0, Qe0]
  · simp -dsimp -implicitDefEqProofs (disch := first | omega | assumption | (simp only [Option.isSome_some, Qt0]; done) | (simp only [UInt64.reduceToNat, UInt32.reduceToNat, UInt8.reduceToNat, List.length_cons, List.length_nil, List.length_append, Int.toNat_natCast] <;> omega) | fail) only [Nat.reduceLT, Nat.reduceLeDiff, Nat.reduceEqDiff, ↓reduceIte, Int.reduceLT, Int.reduceLE, Int.reduceToNat, Int.reduceEq, Int.reduceNe, Nat.reduceAdd, UInt8.reduceOfNat, UInt16.reduceOfNat, UInt32.reduceOfNat, UInt64.reduceOfNat, UInt64.reduceToNat, UInt32.reduceToNat, UInt16.reduceToNat, UInt8.reduceToNat, Int.reduceAdd, Int.reduceSub, Int.reduceMul, Nat.reduceMul, Qp0, Ql0, Qe0]
  · simp -dsimp -implicitDefEqProofs (disch := first | omega | assumption | (simp only [Option.isSome_some, Qt0]; done) | (simp only [UInt64.reduceToNat, UInt32.reduceToNat, UInt8.reduceToNat, List.length_cons, List.length_nil, List.length_append, Int.toNat_natCast] <;> omega) | fail) only [Nat.reduceLT, Nat.reduceLeDiff, Nat.reduceEqDiff, ↓reduceIte, Int.reduceLT, Int.reduceLE, Int.reduceToNat, Int.reduceEq, Int.reduceNe, Nat.reduceAdd, UInt8.reduceOfNat, UInt16.reduceOfNat, UInt32.reduceOfNat, UInt64.reduceOfNat, UInt64.reduceToNat, UInt32.reduceToNat, UInt16.reduceToNat, UInt8.reduceToNat, Int.reduceAdd, Int.reduceSub, Int.reduceMul, Nat.reduceMul, Qp0, Ql0, Qe0]
    try rfl
  clear hb hr hA hrem
  rintro m f h2 ⟨i, him, f0, f2, f7, f29, f30, hds⟩
  have hzl := zl_length mask sf d.l i
  by_cases hi : i < n
  · have e1 : decide ((i : Int) < (n : Int)) = true := decide_eq_true (by omega)
    have hnext : zl mask sf d.l (i + 1) = if lost mask i = true then (zl mask sf d.l i).set (sf + i) 0 else zl mask sf d.l i := rfl
    by_cases hmn : mask = []
    · subst hmn
      rw [lost_nil, if_neg (by decide)] at hnext
      simp -dsimp -implicitDefEqProofs (disch := first | omega | assumption | (simp only [Option.isSome_some, Qt0]; done) | (simp only [UInt64.reduceToNat, UInt32.reduceToNat, UInt8.reduceToNat, List.length_cons, List.length_nil, List.length_append, Int.toNat_natCast] <;> omega) | fail) only [Nat.reduceLT, Nat.reduceLeDiff, Nat.reduceEqDiff, ↓reduceIte, Int.reduceLT, Int.reduceLE, Int.reduceToNat, Int.reduceEq, Int.reduceNe, Nat.reduceAdd, UInt8.reduceOfNat, UInt16.reduceOfNat, UInt32.reduceOfNat, UInt64.reduceOfNat, UInt64.reduceToNat, UInt32.reduceToNat, UInt16.reduceToNat, UInt8.reduceToNat, Int.reduceAdd, Int.reduceSub, Int.reduceMul, Nat.reduceMul, Qp0, Ql0, Qe0, f0, f2, f7, f29, f30, e1]
      exact ⟨m - 1, _, by omega, PH.Le.refl _, i + 1, by omega, by trivial, by trivial, by trivial, by trivial, by simp, by rw [hnext]; exact hds⟩
    have hml : 0 < mask.length := List.length_pos_iff.2 hmn
    have e2 : decide (¬ mask = []) = true := decide_eq_true hmn
    have hmod : ((i : Int) % (mask.length : Int)) = ((i % mask.length : Nat) : Int) := by omega
    have hmlt : i % mask.length < mask.length := Nat.mod_lt _ hml
    obtain ⟨q, hq⟩ : ∃ q, mask.getD (i % mask.length) 0 = q := ⟨_, rfl⟩
    by_cases hq2 : q % 2 = 0
    · have e3 := decide_eq_true hq2
      have hlo : lost mask i = true := by unfold lost; rw [hq, e3]; simp [hmn]
      rw [hlo, if_pos rfl] at hnext
      obtain ⟨A, c, hb, hr, hA⟩ := hds.cells
      rcases hr with ⟨_, hl, _⟩ | ⟨bl, X, lim, rfl, r1', r2, r3, r4, r5, r6⟩
      · exfalso
        simp only at hl
        rw [hl] at hzl
        simp at hzl
        omega
      have hrow := hds.row hb (hA _ rfl) r1' r2 r4 r5 r6 (sf + i) 0 (by simp only; omega)
      simp only at hrow
      rw [← hnext] at hrow
      simp only at r1' r4 r5
      have hidx : ((sf : Int) + (i : Int)).toNat = sf + i := by omega
      unfold DKc at hb
      simp only at hb
      rw [hsf] at hb
      simp -dsimp -implicitDefEqProofs (disch := first | omega | assumption | (simp only [Option.isSome_some, Qt0]; done) | (simp only [UInt64.reduceToNat, UInt32.reduceToNat, UInt8.reduceToNat, List.length_cons, List.length_nil, List.length_append, Int.toNat_natCast] <;> omega) | fail) only [Nat.reduceLT, Nat.reduceLeDiff, Nat.reduceEqDiff, ↓reduceIte, Int.reduceLT, Int.reduceLE, Int.reduceToNat, Int.reduceEq, Int.reduceNe, Nat.reduceAdd, UInt8.reduceOfNat, UInt16.reduceOfNat, UInt32.reduceOfNat, UInt64.reduceOfNat, UInt64.reduceToNat, UInt32.reduceToNat, UInt16.reduceToNat, UInt8.reduceToNat, Int.reduceAdd, Int.reduceSub, Int.reduceMul, Nat.reduceMul, Qp0, Ql0, Qe0, f0, f2, f7, f29, f30, e1, e2, hmod, hq, e3]
      refine PW_tail1 11 (by kernel_rfl) (by kernel_rfl) (by kernel_rfl) (by kernel_rfl) ?_
      simp -dsimp -implicitDefEqProofs (disch := first | omega | assumption | (simp only [Option.isSome_some, Qt0]; done) | (simp only [UInt64.reduceToNat, UInt32.reduceToNat, UInt8.reduceToNat, List.length_cons, List.length_nil, List.length_append, Int.toNat_natCast] <;> omega) | fail) only [Nat.reduceLT, Nat.reduceLeDiff, Nat.reduceEqDiff, ↓reduceIte, Int.reduceLT, Int.reduceLE, Int.reduceToNat, Int.reduceEq, Int.reduceNe, Nat.reduceAdd, UInt8.reduceOfNat, UInt16.reduceOfNat, UInt32.reduceOfNat, UInt64.reduceOfNat, UInt64.reduceToNat, UInt32.reduceToNat, UInt16.reduceToNat, UInt8.reduceToNat, Int.reduceAdd, Int.reduceSub, Int.reduceMul, Nat.reduceMul, Qp0, Ql0, Qe0, f0, f2, f7, f29, f30, rd_M, rdM_some, hb, hidx, r3]
      exact ⟨m - 1, _, by omega, PH.Le.refl _, i + 1, by omega, by trivial, by trivial, by trivial, by trivial, by simp, hrow⟩
    · have e3 := decide_eq_false hq2
      have hlo : lost mask i = false := by unfold lost; rw [hq, e3]; simp
      rw [hlo, if_neg (by decide)] at hnext
      simp -dsimp -implicitDefEqProofs (disch := first | omega | assumption | (simp only [Option.isSome_some, Qt0]; done) | (simp only [UInt64.reduceToNat, UInt32.reduceToNat, UInt8.reduceToNat, List.length_cons, List.length_nil, List.length_append, Int.toNat_natCast] <;> omega) | fail) only [Nat.reduceLT, Nat.reduceLeDiff, Nat.reduceEqDiff, ↓reduceIte, Int.reduceLT, Int.reduceLE, Int.reduceToNat, Int.reduceEq, Int.reduceNe, Nat.reduceAdd, UInt8.reduceOfNat, UInt16.reduceOfNat, UInt32.reduceOfNat, UInt64.reduceOfNat, UInt64.reduceToNat, UInt32.reduceToNat, UInt16.reduceToNat, UInt8.reduceToNat, Int.reduceAdd, Int.reduceSub, Int.reduceMul, Nat.reduceMul, Qp0, Ql0, Qe0, f0, f2, f7, f29, f30, e1, e2, hmod, hq, e3]
      exact ⟨m - 1, _, by omega, PH.Le.refl _, i + 1, by omega, by trivial, by trivial, by trivial, by trivial, by simp, by rw [hnext]; exact hds⟩
  · obtain rfl : i = n := by omega
    have e1 : decide ((i : Int) < (i : Int)) = false := decide_eq_false (by omega)
    generalize zl mask sf d.l i = L at *
    obtain ⟨A, c, hb, hr, hA⟩ := hds.cells
    have hcut : ((sf : Int) + (i : Int)).toNat = sf + i := by omega
    rcases hr with ⟨rfl, hl, rfl⟩ | ⟨bl, X, lim, rfl, r1', r2, r3, r4, r5, r6⟩
    · simp only at hl
      have hL0 : L.length = 0 := by rw [hl]; rfl
      obtain rfl : sf = 0 := by omega
      obtain rfl : i = 0 := by omega
      have hnew := hds.upd (A := none) (c := 0) (d' := { l := L.take (0 + 0), safe := (((0 : Nat) : Int) + ((0 : Nat) : Int)), room := d.room, fuse := -1, down := false }) (.inl ⟨rfl, by rw [hl]; rfl, rfl⟩) hA
      unfold DKc at hb hnew
      simp only at hb
      rw [hsf, hl] at hb
      simp -dsimp -implicitDefEqProofs (disch := first | omega | assumption | (simp only [Option.isSome_some, Qt0]; done) | (simp only [UInt64.reduceToNat, UInt32.reduceToNat, UInt8.reduceToNat, List.length_cons, List.length_nil, List.length_append, Int.toNat_natCast] <;> omega) | fail) only [Nat.reduceLT, Nat.reduceLeDiff, Nat.reduceEqDiff, ↓reduceIte, Int.reduceLT, Int.reduceLE, Int.reduceToNat, Int.reduceEq, Int.reduceNe, Nat.reduceAdd, UInt8.reduceOfNat, UInt16.reduceOfNat, UInt32.reduceOfNat, UInt64.reduceOfNat, UInt64.reduceToNat, UInt32.reduceToNat, UInt16.reduceToNat, UInt8.reduceToNat, Int.reduceAdd, Int.reduceSub, Int.reduceMul, Nat.reduceMul, Qp0, Ql0, Qe0, f0, f2, f7, f29, f30, e1]
      refine PW_tail1 20 (by kernel_rfl) (by kernel_rfl) (by kernel_rfl) (by kernel_rfl) ?_
      simp -dsimp -implicitDefEqProofs (disch := first | omega | assumption | (simp only [Option.isSome_some, Qt0]; done) | (simp only [UInt64.reduceToNat, UInt32.reduceToNat, UInt8.reduceToNat, List.length_cons, List.length_nil, List.length_append, Int.toNat_natCast] <;> omega) | fail) only [Nat.reduceLT, Nat.reduceLeDiff, Nat.reduceEqDiff, ↓reduceIte, Int.reduceLT, Int.reduceLE, Int.reduceToNat, Int.reduceEq, Int.reduceNe, Nat.reduceAdd, UInt8.reduceOfNat, UInt16.reduceOfNat, UInt32.reduceOfNat, UInt64.reduceOfNat, UInt64.reduceToNat, UInt32.reduceToNat, UInt16.reduceToNat, UInt8.reduceToNat, Int.reduceAdd, Int.reduceSub, Int.reduceMul, Nat.reduceMul, Qp0, Ql0, Qe0, f0, f7, rd_M, rdM_some, hb, y_to3nil, List.set_cons_zero, List.set_cons_succ, PH.new_m, PH.new_new]
      exact ⟨_, PH.Le.refl _, hnew⟩
    · have hr2 : Ro h2 (some ⟨bl, 0, none⟩) L c := .inr ⟨bl, X, lim, rfl, r1', r2, r3, r4, r5, r6⟩
      simp only at r1' r4 r5
      have hnew := hds.upd (c := sf + i) (d' := { l := L.take (sf + i), safe := (sf : Int) + (i : Int), room := d.room, fuse := -1, down := false }) (hr2.cut (sf + i) (by omega) (by simp)) hA
      have hlm : (L.take (sf + i)).length = sf + i := by rw [List.length_take]; omega
      unfold DKc at hb hnew
      simp only [hlm] at hnew
      simp only at hb
      rw [hsf] at hb
      simp -dsimp -implicitDefEqProofs (disch := first | omega | assumption | (simp only [Option.isSome_some, Qt0]; done) | (simp only [UInt64.reduceToNat, UInt32.reduceToNat, UInt8.reduceToNat, List.length_cons, List.length_nil, List.length_append, Int.toNat_natCast] <;> omega) | fail) only [Nat.reduceLT, Nat.reduceLeDiff, Nat.reduceEqDiff, ↓reduceIte, Int.reduceLT, Int.reduceLE, Int.reduceToNat, Int.reduceEq, Int.reduceNe, Nat.reduceAdd, UInt8.reduceOfNat, UInt16.reduceOfNat, UInt32.reduceOfNat, UInt64.reduceOfNat, UInt64.reduceToNat, UInt32.reduceToNat, UInt16.reduceToNat, UInt8.reduceToNat, Int.reduceAdd, Int.reduceSub, Int.reduceMul, Nat.reduceMul, Qp0, Ql0, Qe0, f0, f2, f7, f29, f30, e1]
      refine PW_tail1 20 (by kernel_rfl) (by kernel_rfl) (by kernel_rfl) (by kernel_rfl) ?_
      simp -dsimp -implicitDefEqProofs (disch := first | omega | assumption | (simp only [Option.isSome_some, Qt0]; done) | (simp only [UInt64.reduceToNat, UInt32.reduceToNat, UInt8.reduceToNat, List.length_cons, List.length_nil, List.length_append, Int.toNat_natCast] <;> omega) | fail) only [Nat.reduceLT, Nat.reduceLeDiff, Nat.reduceEqDiff, ↓reduceIte, Int.reduceLT, Int.reduceLE, Int.reduceToNat, Int.reduceEq, Int.reduceNe, Nat.reduceAdd, UInt8.reduceOfNat, UInt16.reduceOfNat, UInt32.reduceOfNat, UInt64.reduceOfNat, UInt64.reduceToNat, UInt32.reduceToNat, UInt16.reduceToNat, UInt8.reduceToNat, Int.reduceAdd, Int.reduceSub, Int.reduceMul, Nat.reduceMul, Qp0, Ql0, Qe0, f0, f7, rd_M, rdM_some, hb, hcut, List.set_cons_zero, List.set_cons_succ, PH.new_m, PH.new_new]
      exact ⟨_, PH.Le.refl _, hnew⟩
end
end Go.Proofs.YtcjojkhieocehaaDoor
