/- Walks of the device's Rot, and of New and Room where the room can't be; what is kept when another block changes. No condition. -/
import Derived.Test.YtcjojkhieocehaaDoorBr3
namespace Go.Proofs.YtcjojkhieocehaaDoor
set_option linter.unusedVariables false
set_option linter.unusedSimpArgs false
open Go.RowKit Px
theorem EV.put {h : PH} {c : Nat} {kk : Bk} (hc : h.m c = some kk) (hk : kk.lim ≠ 3) (k : Bk) : ∀ {e : Er} {v : Value}, EV h e v → EV (h.new c k) e v
  | .code _, _, hv => hv
  | .wrap _ _ _, _, ⟨b, u, h1, h2, h3⟩ => ⟨b, u, h1, by rw [PH.new_m, if_neg (fun e => by subst e; rw [hc] at h2; injection h2 with h2; subst h2; exact hk rfl)]; exact h2, EV.put hc hk k h3⟩
theorem ER.put {h : PH} {c : Nat} {kk : Bk} (hc : h.m c = some kk) (hk : kk.lim ≠ 3) (k : Bk) {o : Option (Int × Int)} {v : Value} (e : ER h v o) : ER (h.new c k) v o := by
  cases o with
  | none => exact e
  | some p => exact EV.put hc hk k e
theorem DS.put {h0 h : PH} {b c : Nat} {d : Dk} (hd : DS h0 h b d) {k0 : Bk} (hc : h0.m c = some k0) (k : Bk) : DS (h0.new c k) (h.new c k) b d := by
  obtain ⟨A, q, hb, hr, hA⟩ := hd.cells
  have hbc : b ≠ c := fun e => by subst e; rw [hd.low] at hc; cases hc
  have hAc : ∀ a, A = some a → a.block ≠ c := fun a e f => by have := (hA a e).1; rw [f, hc] at this; cases this
  refine ⟨by have := hd.top; simp only [PH.new_top]; omega, by rw [PH.new_m, if_neg hbc]; exact hd.low, fun x kx e => ?_, A, q, by rw [PH.new_m, if_neg hbc]; exact hb, hr.same fun a e => by rw [PH.new_m, if_neg (hAc a e)], fun a e => ⟨by rw [PH.new_m, if_neg (hAc a e)]; exact (hA a e).1, (hA a e).2⟩⟩
  rw [PH.new_m] at e ⊢
  by_cases hx : x = c
  · rw [if_pos hx] at e ⊢; exact e
  · rw [if_neg hx] at e ⊢; exact hd.same x kx e
theorem DS.both {h0 h : PH} {b be : Nat} {d : Dk} (hd : DS h0 h b d) (he : h.top ≤ be) (k : Bk) : DS (h0.new be k) (h.new be k) b d := by
  obtain ⟨A, q, hb, hr, hA⟩ := hd.cells
  have hbl := h.lt _ _ hb
  have hAl : ∀ a, A = some a → a.block < h.top := fun a e => by
    rcases hr with ⟨h1, _⟩ | ⟨b', X, lim, h1, _, _, h3, _⟩
    · rw [h1] at e; cases e
    · rw [h1] at e; cases e; exact h.lt _ _ h3
  refine ⟨by have := hd.top; simp only [PH.new_top]; omega, by rw [PH.new_m, if_neg (by omega)]; exact hd.low, fun x kx e => ?_, A, q, by rw [PH.new_m, if_neg (by omega)]; exact hb, hr.same fun a e => by rw [PH.new_m, if_neg (by have := hAl a e; omega)], fun a e => ⟨by rw [PH.new_m, if_neg (by have := hAl a e; omega)]; exact (hA a e).1, (hA a e).2⟩⟩
  rw [PH.new_m] at e ⊢
  by_cases hx : x = be
  · rw [if_pos hx] at e ⊢; exact e
  · rw [if_neg hx] at e ⊢; exact hd.same x kx e
/-- A fault is a number other than 0, at the place of the device's size. -/
def Told (d : Dk) (o : Option (Int × Int)) : Prop := ∀ k a, o = some (k, a) → k ≠ 0 ∧ a = d.size
theorem Dk.op_no {d : Dk} (h : d.op.2 = false) : d.op.1.down = true := by
  unfold Dk.op at *
  by_cases hd : d.down = true
  · rw [if_pos hd] at h ⊢; exact hd
  · rw [if_neg hd] at h ⊢
    by_cases h1 : d.fuse < 0
    · rw [if_pos h1] at h; cases h
    · rw [if_neg h1] at h ⊢
      by_cases h2 : 0 < d.fuse
      · rw [if_pos h2] at h; cases h
      · rw [if_neg h2]
theorem told_off {d : Dk} (h : d.down = true) : Told d (some (5, 0)) := fun k a e => by
  injection e with e; injection e with e1 e2; subst e1; subst e2
  exact ⟨by decide, by unfold Dk.size; rw [if_pos h]⟩
theorem told_on {d : Dk} (h : d.down = false) {k : Int} (hk : k ≠ 0) : Told d (some (k, (d.l.length : Int))) := fun k' a e => by
  injection e with e; injection e with e1 e2; subst e1; subst e2
  exact ⟨hk, by unfold Dk.size; rw [if_neg (by rw [h]; decide)]⟩
theorem told_none {d : Dk} : Told d none := fun k a e => by cases e
theorem Dk.append_told (d : Dk) (s : List UInt8) : Told (d.append s).1 (d.append s).2 := by
  unfold Dk.append
  split
  · rename_i h; exact told_on h.1 (by decide)
  · split
    · exact told_none
    · rename_i h; exact told_off (Dk.op_no (by simpa using h))
theorem Dk.sync_told (d : Dk) : Told d.sync.1 d.sync.2 := by
  unfold Dk.sync
  split
  · exact told_none
  · rename_i h; exact told_off (Dk.op_no (by simpa using h))
theorem Dk.cut_told (d : Dk) (n : Int) : Told (d.cut n).1 (d.cut n).2 := by
  unfold Dk.cut
  split
  · rename_i h; exact told_on h.1 (by decide)
  · split
    · exact told_none
    · rename_i h; exact told_off (Dk.op_no (by simpa using h))
theorem Dk.read_told (d : Dk) (i j : Int) : Told d (d.read i j).2 := by
  unfold Dk.read
  split
  · rename_i h; exact told_off h
  · rename_i h
    split
    · exact told_on (by simpa using h) (by decide)
    · exact told_none
theorem Good.append {d : Dk} (g : Good d) (s : List UInt8) : Good (d.append s).1 := by
  have g1 := g.op
  obtain ⟨ol, os, orm⟩ := d.op_l
  have h0 := g.room1
  unfold Dk.append
  split
  · exact g
  · rename_i h
    split
    · rename_i h2
      have hd := Dk.op_up h2
      have hs := g.safe1
      refine ⟨g1.safe0, ?_, ?_, g1.room0, g1.room1, g1.fuse⟩
      · simp only [os, List.length_append]; omega
      · simp only [List.length_append]
        have : ¬ (d.room - d.l.length < (s.length : Int)) := fun q => h ⟨hd, q⟩
        omega
    · exact g1
theorem Good.sync {d : Dk} (g : Good d) : Good d.sync.1 := by
  have g1 := g.op
  obtain ⟨ol, os, orm⟩ := d.op_l
  unfold Dk.sync
  split
  · refine ⟨by simp only; omega, by simp only [ol]; omega, g1.len, g1.room0, g1.room1, g1.fuse⟩
  · exact g1
theorem Good.cut {d : Dk} (g : Good d) (n : Int) : Good (d.cut n).1 := by
  have g1 := g.op
  obtain ⟨ol, os, orm⟩ := d.op_l
  have h1 := g.safe0
  have h2 := g.safe1
  have h3 := g.len
  unfold Dk.cut
  split
  · exact g
  · rename_i h
    split
    · rename_i hu
      have hd := Dk.op_up hu
      have hn : 0 ≤ n ∧ n ≤ d.l.length := ⟨by have : ¬ n < 0 := fun q => h ⟨hd, .inl q⟩; omega, by have : ¬ (d.l.length : Int) < n := fun q => h ⟨hd, .inr q⟩; omega⟩
      refine ⟨?_, ?_, ?_, g1.room0, g1.room1, g1.fuse⟩
      · simp only; split <;> omega
      · simp only [List.length_take]; split <;> omega
      · simp only [List.length_take]; omega
    · exact g1
theorem Good.crash {d : Dk} (g : Good d) (k : Int) (mask : List UInt8) : Good (d.crash k mask) := by
  obtain ⟨X, Y, hl, hs, hxy⟩ := g.split
  obtain ⟨n, hn, hnl, _⟩ := kept_eq d hl hs k
  have h1 : (d.crash k mask).l.length = X.length + n := by
    unfold Dk.crash
    simp only [hn, hs, Int.toNat_natCast, hl, List.length_take, zl_length, List.length_append]
    omega
  have h2 : (d.crash k mask).safe = (X.length : Int) + n := by unfold Dk.crash; simp only [hn, hs]
  exact ⟨by rw [h2]; omega, by rw [h1, h2]; omega, by rw [h1]; omega, g.room0, g.room1, by unfold Dk.crash; simp⟩
theorem Good.rot {d : Dk} (g : Good d) (n : Int) (x : UInt8) : Good (d.rot n x).1 := by
  unfold Dk.rot
  split
  · exact g
  · exact ⟨g.safe0, by simp only [List.length_set]; exact g.safe1, by simp only [List.length_set]; exact g.len, g.room0, g.room1, g.fuse⟩
section
variable (h0 : PH) (b : Nat) (d : Dk) (w0 : World) (h : PH)
set_option maxRecDepth 20000 in
set_option maxHeartbeats 1000000 in
theorem rot_any (hd : DS h0 h b d) (g : Good d) (n : Int) (x : UInt8) : PCalls Tryd.prog w0 29 [.pointer (some ⟨b, 0, none⟩), .int .i64 n, u8 x] h fun v h' => v = .bool (d.rot n x).2 ∧ DS h0 h' b (d.rot n x).1 := by
  refine PCalls_body Tryd.func29 (by kernel_rfl) rfl _ Tryd.ntmps29 (by kernel_rfl) (by kernel_rfl) _ Tryd.results29 ?_
  have hD := Lib.hid (down_any h0 b d w0 h hd)
  obtain ⟨A, c, hb, hr, hA⟩ := hd.cells
  have hs0 := g.safe0
  have hs1 := g.safe1
  unfold Dk.rot
  cases hdn : d.down
  rotate_left
  · rw [if_pos (.inl rfl)]
    rw [hdn] at hD
    simp -dsimp -implicitDefEqProofs (disch := first | omega | assumption | (simp only [Option.isSome_some, Qt0]; done) | (simp only [UInt64.reduceToNat, UInt32.reduceToNat, UInt8.reduceToNat, List.length_cons, List.length_nil, List.length_append, Int.toNat_natCast] <;> omega) | fail) only [Nat.reduceLT, Nat.reduceLeDiff, Nat.reduceEqDiff, ↓reduceIte, Int.reduceLT, Int.reduceLE, Int.reduceToNat, Int.reduceEq, Int.reduceNe, Nat.reduceAdd, UInt8.reduceOfNat, UInt16.reduceOfNat, UInt32.reduceOfNat, UInt64.reduceOfNat, UInt64.reduceToNat, UInt32.reduceToNat, UInt16.reduceToNat, UInt8.reduceToNat, Int.reduceAdd, Int.reduceSub, Int.reduceMul, Nat.reduceMul, Qp0, Ql0, Qe0]
    refine hD.out.mono ?_
    rintro v hq ⟨rfl, hz⟩
    obtain rfl := hz.symm
    simp -dsimp -implicitDefEqProofs (disch := first | omega | assumption | (simp only [Option.isSome_some, Qt0]; done) | (simp only [UInt64.reduceToNat, UInt32.reduceToNat, UInt8.reduceToNat, List.length_cons, List.length_nil, List.length_append, Int.toNat_natCast] <;> omega) | fail) only [Nat.reduceLT, Nat.reduceLeDiff, Nat.reduceEqDiff, ↓reduceIte, Int.reduceLT, Int.reduceLE, Int.reduceToNat, Int.reduceEq, Int.reduceNe, Nat.reduceAdd, UInt8.reduceOfNat, UInt16.reduceOfNat, UInt32.reduceOfNat, UInt64.reduceOfNat, UInt64.reduceToNat, UInt32.reduceToNat, UInt16.reduceToNat, UInt8.reduceToNat, Int.reduceAdd, Int.reduceSub, Int.reduceMul, Nat.reduceMul, Qp0, Ql0, Qe0]
    exact ⟨_, PH.Le.refl _, by trivial, hd⟩
  rw [hdn] at hD
  by_cases hn0 : n < 0
  · rw [if_pos (.inr (.inl hn0))]
    have d1 := decide_eq_true hn0
    simp -dsimp -implicitDefEqProofs (disch := first | omega | assumption | (simp only [Option.isSome_some, Qt0]; done) | (simp only [UInt64.reduceToNat, UInt32.reduceToNat, UInt8.reduceToNat, List.length_cons, List.length_nil, List.length_append, Int.toNat_natCast] <;> omega) | fail) only [Nat.reduceLT, Nat.reduceLeDiff, Nat.reduceEqDiff, ↓reduceIte, Int.reduceLT, Int.reduceLE, Int.reduceToNat, Int.reduceEq, Int.reduceNe, Nat.reduceAdd, UInt8.reduceOfNat, UInt16.reduceOfNat, UInt32.reduceOfNat, UInt64.reduceOfNat, UInt64.reduceToNat, UInt32.reduceToNat, UInt16.reduceToNat, UInt8.reduceToNat, Int.reduceAdd, Int.reduceSub, Int.reduceMul, Nat.reduceMul, Qp0, Ql0, Qe0]
    refine hD.out.mono ?_
    rintro v hq ⟨rfl, hz⟩
    obtain rfl := hz.symm
    simp -dsimp -implicitDefEqProofs (disch := first | omega | assumption | (simp only [Option.isSome_some, Qt0]; done) | (simp only [UInt64.reduceToNat, UInt32.reduceToNat, UInt8.reduceToNat, List.length_cons, List.length_nil, List.length_append, Int.toNat_natCast] <;> omega) | fail) only [Nat.reduceLT, Nat.reduceLeDiff, Nat.reduceEqDiff, ↓reduceIte, Int.reduceLT, Int.reduceLE, Int.reduceToNat, Int.reduceEq, Int.reduceNe, Nat.reduceAdd, UInt8.reduceOfNat, UInt16.reduceOfNat, UInt32.reduceOfNat, UInt64.reduceOfNat, UInt64.reduceToNat, UInt32.reduceToNat, UInt16.reduceToNat, UInt8.reduceToNat, Int.reduceAdd, Int.reduceSub, Int.reduceMul, Nat.reduceMul, Qp0, Ql0, Qe0, d1]
    exact ⟨_, PH.Le.refl _, by trivial, hd⟩
  have d1 := decide_eq_false hn0
  obtain ⟨j, rfl⟩ := Int.eq_ofNat_of_zero_le (show 0 ≤ n by omega)
  by_cases h1 : d.safe ≤ j
  · rw [if_pos (.inr (.inr (.inl h1)))]
    have d2 : decide (d.safe ≤ (j : Int)) = true := decide_eq_true h1
    unfold DKc at hb
    simp -dsimp -implicitDefEqProofs (disch := first | omega | assumption | (simp only [Option.isSome_some, Qt0]; done) | (simp only [UInt64.reduceToNat, UInt32.reduceToNat, UInt8.reduceToNat, List.length_cons, List.length_nil, List.length_append, Int.toNat_natCast] <;> omega) | fail) only [Nat.reduceLT, Nat.reduceLeDiff, Nat.reduceEqDiff, ↓reduceIte, Int.reduceLT, Int.reduceLE, Int.reduceToNat, Int.reduceEq, Int.reduceNe, Nat.reduceAdd, UInt8.reduceOfNat, UInt16.reduceOfNat, UInt32.reduceOfNat, UInt64.reduceOfNat, UInt64.reduceToNat, UInt32.reduceToNat, UInt16.reduceToNat, UInt8.reduceToNat, Int.reduceAdd, Int.reduceSub, Int.reduceMul, Nat.reduceMul, Qp0, Ql0, Qe0]
    refine hD.out.mono ?_
    rintro v hq ⟨rfl, hz⟩
    obtain rfl := hz.symm
    simp -dsimp -implicitDefEqProofs (disch := first | omega | assumption | (simp only [Option.isSome_some, Qt0]; done) | (simp only [UInt64.reduceToNat, UInt32.reduceToNat, UInt8.reduceToNat, List.length_cons, List.length_nil, List.length_append, Int.toNat_natCast] <;> omega) | fail) only [Nat.reduceLT, Nat.reduceLeDiff, Nat.reduceEqDiff, ↓reduceIte, Int.reduceLT, Int.reduceLE, Int.reduceToNat, Int.reduceEq, Int.reduceNe, Nat.reduceAdd, UInt8.reduceOfNat, UInt16.reduceOfNat, UInt32.reduceOfNat, UInt64.reduceOfNat, UInt64.reduceToNat, UInt32.reduceToNat, UInt16.reduceToNat, UInt8.reduceToNat, Int.reduceAdd, Int.reduceSub, Int.reduceMul, Nat.reduceMul, Qp0, Ql0, Qe0, d1, rd_M, rdM_some, hb, ge_iff_le, d2]
    exact ⟨_, PH.Le.refl _, by trivial, hd⟩
  have d2 : decide (d.safe ≤ (j : Int)) = false := decide_eq_false h1
  by_cases h2 : x = 0
  · rw [if_pos (.inr (.inr (.inr h2)))]
    have d3 := decide_eq_true h2
    unfold DKc at hb
    simp -dsimp -implicitDefEqProofs (disch := first | omega | assumption | (simp only [Option.isSome_some, Qt0]; done) | (simp only [UInt64.reduceToNat, UInt32.reduceToNat, UInt8.reduceToNat, List.length_cons, List.length_nil, List.length_append, Int.toNat_natCast] <;> omega) | fail) only [Nat.reduceLT, Nat.reduceLeDiff, Nat.reduceEqDiff, ↓reduceIte, Int.reduceLT, Int.reduceLE, Int.reduceToNat, Int.reduceEq, Int.reduceNe, Nat.reduceAdd, UInt8.reduceOfNat, UInt16.reduceOfNat, UInt32.reduceOfNat, UInt64.reduceOfNat, UInt64.reduceToNat, UInt32.reduceToNat, UInt16.reduceToNat, UInt8.reduceToNat, Int.reduceAdd, Int.reduceSub, Int.reduceMul, Nat.reduceMul, Qp0, Ql0, Qe0]
    refine hD.out.mono ?_
    rintro v hq ⟨rfl, hz⟩
    obtain rfl := hz.symm
    simp -dsimp -implicitDefEqProofs (disch := first | omega | assumption | (simp only [Option.isSome_some, Qt0]; done) | (simp only [UInt64.reduceToNat, UInt32.reduceToNat, UInt8.reduceToNat, List.length_cons, List.length_nil, List.length_append, Int.toNat_natCast] <;> omega) | fail) only [Nat.reduceLT, Nat.reduceLeDiff, Nat.reduceEqDiff, ↓reduceIte, Int.reduceLT, Int.reduceLE, Int.reduceToNat, Int.reduceEq, Int.reduceNe, Nat.reduceAdd, UInt8.reduceOfNat, UInt16.reduceOfNat, UInt32.reduceOfNat, UInt64.reduceOfNat, UInt64.reduceToNat, UInt32.reduceToNat, UInt16.reduceToNat, UInt8.reduceToNat, Int.reduceAdd, Int.reduceSub, Int.reduceMul, Nat.reduceMul, Qp0, Ql0, Qe0, d1, rd_M, rdM_some, hb, ge_iff_le, d2, d3]
    exact ⟨_, PH.Le.refl _, by trivial, hd⟩
  have d3 := decide_eq_false h2
  rw [if_neg (by simp [hn0, h1, h2]), Int.toNat_natCast]
  obtain ⟨y, hy⟩ : ∃ y, d.l.getD j 0 = y := ⟨_, rfl⟩
  rw [hy]
  rcases hr with ⟨_, hl, _⟩ | ⟨bl, X, lim, rfl, r1, r2, r3, r4, r5, r6⟩
  · exfalso; rw [hl] at hs1; simp at hs1; omega
  have hrow := hd.row hb (hA _ rfl) r1 r2 r4 r5 r6 j (y ^^^ x) (by omega)
  rw [hdn] at hrow
  have hXj : X[j]? = some (u8 y) := by
    have e : (X.take d.l.length)[j]? = (bs d.l)[j]? := by rw [r5]
    rw [List.getElem?_take_of_lt (by omega)] at e
    rw [e, ← hy]
    simp [bs, List.getD, List.getElem?_eq_getElem (show j < d.l.length by omega)]
  unfold DKc at hb
  simp -dsimp -implicitDefEqProofs (disch := first | omega | assumption | (simp only [Option.isSome_some, Qt0]; done) | (simp only [UInt64.reduceToNat, UInt32.reduceToNat, UInt8.reduceToNat, List.length_cons, List.length_nil, List.length_append, Int.toNat_natCast] <;> omega) | fail) only [Nat.reduceLT, Nat.reduceLeDiff, Nat.reduceEqDiff, ↓reduceIte, Int.reduceLT, Int.reduceLE, Int.reduceToNat, Int.reduceEq, Int.reduceNe, Nat.reduceAdd, UInt8.reduceOfNat, UInt16.reduceOfNat, UInt32.reduceOfNat, UInt64.reduceOfNat, UInt64.reduceToNat, UInt32.reduceToNat, UInt16.reduceToNat, UInt8.reduceToNat, Int.reduceAdd, Int.reduceSub, Int.reduceMul, Nat.reduceMul, Qp0, Ql0, Qe0]
  refine hD.out.mono ?_
  rintro v hq ⟨rfl, hz⟩
  obtain rfl := hz.symm
  simp -dsimp -implicitDefEqProofs (disch := first | omega | assumption | (simp only [Option.isSome_some, Qt0]; done) | (simp only [UInt64.reduceToNat, UInt32.reduceToNat, UInt8.reduceToNat, List.length_cons, List.length_nil, List.length_append, Int.toNat_natCast] <;> omega) | fail) only [Nat.reduceLT, Nat.reduceLeDiff, Nat.reduceEqDiff, ↓reduceIte, Int.reduceLT, Int.reduceLE, Int.reduceToNat, Int.reduceEq, Int.reduceNe, Nat.reduceAdd, UInt8.reduceOfNat, UInt16.reduceOfNat, UInt32.reduceOfNat, UInt64.reduceOfNat, UInt64.reduceToNat, UInt32.reduceToNat, UInt16.reduceToNat, UInt8.reduceToNat, Int.reduceAdd, Int.reduceSub, Int.reduceMul, Nat.reduceMul, Qp0, Ql0, Qe0, d1, rd_M, rdM_some, hb, ge_iff_le, d2, d3, r3, hXj]
  refine ⟨_, PH.Le.refl _, by trivial, ?_⟩
  exact hrow
set_option maxRecDepth 20000 in
theorem room_bad (hd : DS h0 h b d) (n : Int) (hn : n < 0 ∨ 1048576 < n) : PCalls Tryd.prog w0 16 [.pointer (some ⟨b, 0, none⟩), .int .i64 n] h fun v h' => ER h' v (some (1, d.size)) ∧ DS h0 h' b d := by
  refine PCalls_body Tryd.func16 (by kernel_rfl) rfl _ Tryd.ntmps16 (by kernel_rfl) (by kernel_rfl) _ Tryd.results16 ?_
  have hB := Lib.hid (bad_any h0 b d w0 h hd 1)
  by_cases h1 : n < 0
  · have d1 := decide_eq_true h1
    simp -dsimp -implicitDefEqProofs (disch := first | omega | assumption | (simp only [Option.isSome_some, Qt0]; done) | (simp only [UInt64.reduceToNat, UInt32.reduceToNat, UInt8.reduceToNat, List.length_cons, List.length_nil, List.length_append, Int.toNat_natCast] <;> omega) | fail) only [Nat.reduceLT, Nat.reduceLeDiff, Nat.reduceEqDiff, ↓reduceIte, Int.reduceLT, Int.reduceLE, Int.reduceToNat, Int.reduceEq, Int.reduceNe, Nat.reduceAdd, UInt8.reduceOfNat, UInt16.reduceOfNat, UInt32.reduceOfNat, UInt64.reduceOfNat, UInt64.reduceToNat, UInt32.reduceToNat, UInt16.reduceToNat, UInt8.reduceToNat, Int.reduceAdd, Int.reduceSub, Int.reduceMul, Nat.reduceMul, Qp0, Ql0, Qe0, d1]
    refine hB.out.mono ?_
    rintro v hz ⟨be, rfl, hbe, rfl⟩
    simp -dsimp -implicitDefEqProofs (disch := first | omega | assumption | (simp only [Option.isSome_some, Qt0]; done) | (simp only [UInt64.reduceToNat, UInt32.reduceToNat, UInt8.reduceToNat, List.length_cons, List.length_nil, List.length_append, Int.toNat_natCast] <;> omega) | fail) only [Nat.reduceLT, Nat.reduceLeDiff, Nat.reduceEqDiff, ↓reduceIte, Int.reduceLT, Int.reduceLE, Int.reduceToNat, Int.reduceEq, Int.reduceNe, Nat.reduceAdd, UInt8.reduceOfNat, UInt16.reduceOfNat, UInt32.reduceOfNat, UInt64.reduceOfNat, UInt64.reduceToNat, UInt32.reduceToNat, UInt16.reduceToNat, UInt8.reduceToNat, Int.reduceAdd, Int.reduceSub, Int.reduceMul, Nat.reduceMul, Qp0, Ql0, Qe0]
    exact ⟨_, PH.Le.refl _, EV.at (show EV _ (.code 1) (codeV 1) from rfl) hbe, hd.more hbe⟩
  · have d1 := decide_eq_false h1
    have d2 : decide (1048576 < n) = true := decide_eq_true (by omega)
    simp -dsimp -implicitDefEqProofs (disch := first | omega | assumption | (simp only [Option.isSome_some, Qt0]; done) | (simp only [UInt64.reduceToNat, UInt32.reduceToNat, UInt8.reduceToNat, List.length_cons, List.length_nil, List.length_append, Int.toNat_natCast] <;> omega) | fail) only [Nat.reduceLT, Nat.reduceLeDiff, Nat.reduceEqDiff, ↓reduceIte, Int.reduceLT, Int.reduceLE, Int.reduceToNat, Int.reduceEq, Int.reduceNe, Nat.reduceAdd, UInt8.reduceOfNat, UInt16.reduceOfNat, UInt32.reduceOfNat, UInt64.reduceOfNat, UInt64.reduceToNat, UInt32.reduceToNat, UInt16.reduceToNat, UInt8.reduceToNat, Int.reduceAdd, Int.reduceSub, Int.reduceMul, Nat.reduceMul, Qp0, Ql0, Qe0, d1, gt_iff_lt, d2]
    refine hB.out.mono ?_
    rintro v hz ⟨be, rfl, hbe, rfl⟩
    simp -dsimp -implicitDefEqProofs (disch := first | omega | assumption | (simp only [Option.isSome_some, Qt0]; done) | (simp only [UInt64.reduceToNat, UInt32.reduceToNat, UInt8.reduceToNat, List.length_cons, List.length_nil, List.length_append, Int.toNat_natCast] <;> omega) | fail) only [Nat.reduceLT, Nat.reduceLeDiff, Nat.reduceEqDiff, ↓reduceIte, Int.reduceLT, Int.reduceLE, Int.reduceToNat, Int.reduceEq, Int.reduceNe, Nat.reduceAdd, UInt8.reduceOfNat, UInt16.reduceOfNat, UInt32.reduceOfNat, UInt64.reduceOfNat, UInt64.reduceToNat, UInt32.reduceToNat, UInt16.reduceToNat, UInt8.reduceToNat, Int.reduceAdd, Int.reduceSub, Int.reduceMul, Nat.reduceMul, Qp0, Ql0, Qe0]
    exact ⟨_, PH.Le.refl _, EV.at (show EV _ (.code 1) (codeV 1) from rfl) hbe, hd.more hbe⟩
set_option maxRecDepth 20000 in
theorem new_no (n : Int) (hn : n < 0 ∨ 1048576 < n) : PCalls Tryd.prog w0 5 [.int .i64 n] h fun v h' => ∃ u, v = .tuple #[.pointer none, u] ∧ EV h' (.wrap blockT 0 (.code 1)) u ∧ PH.Le h h' := by
  refine PCalls_body Tryd.func5 (by kernel_rfl) rfl _ Tryd.ntmps5 (by kernel_rfl) (by kernel_rfl) _ Tryd.results5 ?_
  simp -dsimp -implicitDefEqProofs (disch := first | omega | assumption | (simp only [Option.isSome_some, Qt0]; done) | (simp only [UInt64.reduceToNat, UInt32.reduceToNat, UInt8.reduceToNat, List.length_cons, List.length_nil, List.length_append, Int.toNat_natCast] <;> omega) | fail) only [Nat.reduceLT, Nat.reduceLeDiff, Nat.reduceEqDiff, ↓reduceIte, Int.reduceLT, Int.reduceLE, Int.reduceToNat, Int.reduceEq, Int.reduceNe, Nat.reduceAdd, UInt8.reduceOfNat, UInt16.reduceOfNat, UInt32.reduceOfNat, UInt64.reduceOfNat, UInt64.reduceToNat, UInt32.reduceToNat, UInt16.reduceToNat, UInt8.reduceToNat, Int.reduceAdd, Int.reduceSub, Int.reduceMul, Nat.reduceMul, Qp0, Ql0, Qe0]
  refine fun b hb => ?_
  have hds : DS h (h.new b ⟨DKc none 0 ⟨[], 0, 0, -1, false⟩, 5⟩) b ⟨[], 0, 0, -1, false⟩ := ⟨by simp only [PH.new_top]; omega, h.gone hb, fun x k e => by rw [PH.new_m, if_neg (by have := h.lt _ _ e; omega)]; exact e, none, 0, by rw [PH.new_m, if_pos rfl], .inl ⟨rfl, rfl, rfl⟩, fun a e => by cases e⟩
  have hR := Lib.hid (room_bad h b ⟨[], 0, 0, -1, false⟩ w0 _ hds n hn)
  unfold DKc at hR
  simp -dsimp -implicitDefEqProofs (disch := first | omega | assumption | (simp only [Option.isSome_some, Qt0]; done) | (simp only [UInt64.reduceToNat, UInt32.reduceToNat, UInt8.reduceToNat, List.length_cons, List.length_nil, List.length_append, Int.toNat_natCast] <;> omega) | fail) only [Nat.reduceLT, Nat.reduceLeDiff, Nat.reduceEqDiff, ↓reduceIte, Int.reduceLT, Int.reduceLE, Int.reduceToNat, Int.reduceEq, Int.reduceNe, Nat.reduceAdd, UInt8.reduceOfNat, UInt16.reduceOfNat, UInt32.reduceOfNat, UInt64.reduceOfNat, UInt64.reduceToNat, UInt32.reduceToNat, UInt16.reduceToNat, UInt8.reduceToNat, Int.reduceAdd, Int.reduceSub, Int.reduceMul, Nat.reduceMul, Qp0, Ql0, Qe0]
  refine hR.out.mono ?_
  rintro v hz ⟨he, hdz⟩
  have he' : EV hz (.wrap blockT 0 (.code 1)) v := he
  obtain ⟨t, x, rfl⟩ := he'.held
  simp -dsimp -implicitDefEqProofs (disch := first | omega | assumption | (simp only [Option.isSome_some, Qt0]; done) | (simp only [UInt64.reduceToNat, UInt32.reduceToNat, UInt8.reduceToNat, List.length_cons, List.length_nil, List.length_append, Int.toNat_natCast] <;> omega) | fail) only [Nat.reduceLT, Nat.reduceLeDiff, Nat.reduceEqDiff, ↓reduceIte, Int.reduceLT, Int.reduceLE, Int.reduceToNat, Int.reduceEq, Int.reduceNe, Nat.reduceAdd, UInt8.reduceOfNat, UInt16.reduceOfNat, UInt32.reduceOfNat, UInt64.reduceOfNat, UInt64.reduceToNat, UInt32.reduceToNat, UInt16.reduceToNat, UInt8.reduceToNat, Int.reduceAdd, Int.reduceSub, Int.reduceMul, Nat.reduceMul, Qp0, Ql0, Qe0]
  exact ⟨_, PH.Le.refl _, _, by trivial, he', ⟨hdz.top, hdz.same⟩⟩
end
end Go.Proofs.YtcjojkhieocehaaDoor
