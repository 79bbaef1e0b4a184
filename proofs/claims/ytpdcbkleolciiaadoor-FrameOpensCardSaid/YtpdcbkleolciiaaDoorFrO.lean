/- Walks of frame.raws, frame.open and frame.Open. -/
import Derived.Test.YtpdcbkleolciiaaDoorFrW
namespace Go.Proofs.YtpdcbkleolciiaaDoor
set_option linter.unusedVariables false
set_option linter.unusedSimpArgs false
open Go.RowKit Px
def RP (h : PH) (n : Nat) (o : Option (List UInt8)) (v : Value) (h' : PH) : Prop := match o with
  | some r => ∃ b, v = .tuple #[.slice (some ⟨b, 0, none⟩) n n, .bool true] ∧ h.top ≤ b ∧ h' = h.new b ⟨bs r, n⟩
  | none => v = .tuple #[.slice none 0 0, .bool false] ∧ h' = h
theorem fill_set (r : List UInt8) (n i : Nat) (x : UInt8) (hr : r.length = i) (hi : i < n) : (bs (r ++ List.replicate (n - i) 0)).set i (u8 x) = bs ((r ++ [x]) ++ List.replicate (n - (i + 1)) 0) := by
  rw [show n - i = (n - (i + 1)) + 1 by omega, List.replicate_succ, bs_append, List.set_append_right _ _ (by rw [bs_length]; omega), bs_length, hr, Nat.sub_self]
  simp [bs]
theorem drop_getD (s : List UInt8) (a j : Nat) : (s.drop a).getD j 0 = s.getD (a + j) 0 := by simp [List.getD]
set_option maxRecDepth 20000 in
set_option maxHeartbeats 1000000 in
theorem raws_any (s : List UInt8) (a n : Nat) (hs : s.length ≤ 1000000) (ha : a ≤ 1000000) (hn : 0 < n) (hn2 : n ≤ 1000000) (w0 : World) (h : PH) : PCalls Tryd.prog w0 25 [str s, .int .i64 a, .int .i64 n] h fun v h' => RP h n (Fm.raws n (s.drop a)) v h' := by
  refine PCalls_body Tryd.func25 (by kernel_rfl) rfl _ Tryd.ntmps25 (by kernel_rfl) (by kernel_rfl) _ Tryd.results25 ?_
  by_cases hsh : (s.length : Int) - (a : Int) < 2 * (n : Int)
  · have e1 := decide_eq_true hsh
    have hno := Fm.raws_short n (s.drop a) (by rw [List.length_drop]; omega)
    rw [hno]
    simp -dsimp -implicitDefEqProofs (disch := first | omega | assumption | (simp only [Option.isSome_some, Qt0]; done) | (simp only [UInt64.reduceToNat, UInt32.reduceToNat, UInt8.reduceToNat, List.length_cons, List.length_nil, List.length_append, Int.toNat_natCast] <;> omega)) only [Nat.reduceLT, Nat.reduceLeDiff, Nat.reduceEqDiff, ↓reduceIte, Int.reduceLT, Int.reduceLE, Int.reduceToNat, Int.reduceEq, Int.reduceNe, Nat.reduceAdd, UInt8.reduceOfNat, UInt16.reduceOfNat, UInt32.reduceOfNat, UInt64.reduceOfNat, UInt64.reduceToNat, UInt32.reduceToNat, UInt16.reduceToNat, UInt8.reduceToNat, Int.reduceAdd, Int.reduceSub, Int.reduceMul, Nat.reduceMul, Qp0, Ql0, Qe0, e1]
    exact ⟨_, PH.Le.refl _, rfl, rfl⟩
  have e1 := decide_eq_false hsh
  simp -dsimp -implicitDefEqProofs (disch := first | omega | assumption | (simp only [Option.isSome_some, Qt0]; done) | (simp only [UInt64.reduceToNat, UInt32.reduceToNat, UInt8.reduceToNat, List.length_cons, List.length_nil, List.length_append, Int.toNat_natCast] <;> omega)) only [Nat.reduceLT, Nat.reduceLeDiff, Nat.reduceEqDiff, ↓reduceIte, Int.reduceLT, Int.reduceLE, Int.reduceToNat, Int.reduceEq, Int.reduceNe, Nat.reduceAdd, UInt8.reduceOfNat, UInt16.reduceOfNat, UInt32.reduceOfNat, UInt64.reduceOfNat, UInt64.reduceToNat, UInt32.reduceToNat, UInt16.reduceToNat, UInt8.reduceToNat, Int.reduceAdd, Int.reduceSub, Int.reduceMul, Nat.reduceMul, Qp0, Ql0, Qe0, e1]
  refine Does_make (n := n) (c := n) el_u8 (by omega) (by simp [maxLen]; omega) (by omega) (fun b hb => ?_)
  have hmk : (madeCells (Value.int .u8 0).cells (n * 1)).toList = bs (List.replicate n 0) := by
    show (madeCells #[Value.int .u8 0] (n * 1)).toList = _
    rw [made_one, Nat.mul_one, bs, List.map_replicate]
    rfl
  rw [hmk, Nat.mul_one]
  obtain ⟨L, hL⟩ : ∃ L, L = s.drop a := ⟨_, rfl⟩
  have hLl : L.length = s.length - a := by rw [hL, List.length_drop]
  rw [← hL]
  simp -dsimp -implicitDefEqProofs (disch := first | omega | assumption | (simp only [Option.isSome_some, Qt0]; done) | (simp only [UInt64.reduceToNat, UInt32.reduceToNat, UInt8.reduceToNat, List.length_cons, List.length_nil, List.length_append, Int.toNat_natCast] <;> omega)) only [Nat.reduceLT, Nat.reduceLeDiff, Nat.reduceEqDiff, ↓reduceIte, Int.reduceLT, Int.reduceLE, Int.reduceToNat, Int.reduceEq, Int.reduceNe, Nat.reduceAdd, UInt8.reduceOfNat, UInt16.reduceOfNat, UInt32.reduceOfNat, UInt64.reduceOfNat, UInt64.reduceToNat, UInt32.reduceToNat, UInt16.reduceToNat, UInt8.reduceToNat, Int.reduceAdd, Int.reduceSub, Int.reduceMul, Nat.reduceMul, Qp0, Ql0, Qe0]
  refine PW_loop (fun m f h' => ∃ (i : Nat) (r : List UInt8), i + m = n ∧ Fm.raws i L = some r ∧ f 0 = some (str s) ∧ f 1 = some (.int .i64 a) ∧ f 8 = some (.slice (some ⟨b, 0, none⟩) n n) ∧ f 22 = some (.int .i64 n) ∧ f 23 = some (.int .i64 i) ∧ h' = h.new b ⟨bs (r ++ List.replicate (n - i) 0), n⟩) (by kernel_rfl) n ⟨0, [], by omega, rfl, ?_, ?_, ?_, ?_, ?_, rfl⟩ ?_
  · simp -dsimp -implicitDefEqProofs (disch := first | omega | assumption | (simp only [Option.isSome_some, Qt0]; done) | (simp only [UInt64.reduceToNat, UInt32.reduceToNat, UInt8.reduceToNat, List.length_cons, List.length_nil, List.length_append, Int.toNat_natCast] <;> omega)) only [Nat.reduceLT, Nat.reduceLeDiff, Nat.reduceEqDiff, ↓reduceIte, Int.reduceLT, Int.reduceLE, Int.reduceToNat, Int.reduceEq, Int.reduceNe, Nat.reduceAdd, UInt8.reduceOfNat, UInt16.reduceOfNat, UInt32.reduceOfNat, UInt64.reduceOfNat, UInt64.reduceToNat, UInt32.reduceToNat, UInt16.reduceToNat, UInt8.reduceToNat, Int.reduceAdd, Int.reduceSub, Int.reduceMul, Nat.reduceMul, Qp0, Ql0, Qe0]
  · simp -dsimp -implicitDefEqProofs (disch := first | omega | assumption | (simp only [Option.isSome_some, Qt0]; done) | (simp only [UInt64.reduceToNat, UInt32.reduceToNat, UInt8.reduceToNat, List.length_cons, List.length_nil, List.length_append, Int.toNat_natCast] <;> omega)) only [Nat.reduceLT, Nat.reduceLeDiff, Nat.reduceEqDiff, ↓reduceIte, Int.reduceLT, Int.reduceLE, Int.reduceToNat, Int.reduceEq, Int.reduceNe, Nat.reduceAdd, UInt8.reduceOfNat, UInt16.reduceOfNat, UInt32.reduceOfNat, UInt64.reduceOfNat, UInt64.reduceToNat, UInt32.reduceToNat, UInt16.reduceToNat, UInt8.reduceToNat, Int.reduceAdd, Int.reduceSub, Int.reduceMul, Nat.reduceMul, Qp0, Ql0, Qe0]
  · simp -dsimp -implicitDefEqProofs (disch := first | omega | assumption | (simp only [Option.isSome_some, Qt0]; done) | (simp only [UInt64.reduceToNat, UInt32.reduceToNat, UInt8.reduceToNat, List.length_cons, List.length_nil, List.length_append, Int.toNat_natCast] <;> omega)) only [Nat.reduceLT, Nat.reduceLeDiff, Nat.reduceEqDiff, ↓reduceIte, Int.reduceLT, Int.reduceLE, Int.reduceToNat, Int.reduceEq, Int.reduceNe, Nat.reduceAdd, UInt8.reduceOfNat, UInt16.reduceOfNat, UInt32.reduceOfNat, UInt64.reduceOfNat, UInt64.reduceToNat, UInt32.reduceToNat, UInt16.reduceToNat, UInt8.reduceToNat, Int.reduceAdd, Int.reduceSub, Int.reduceMul, Nat.reduceMul, Qp0, Ql0, Qe0]
  · simp -dsimp -implicitDefEqProofs (disch := first | omega | assumption | (simp only [Option.isSome_some, Qt0]; done) | (simp only [UInt64.reduceToNat, UInt32.reduceToNat, UInt8.reduceToNat, List.length_cons, List.length_nil, List.length_append, Int.toNat_natCast] <;> omega)) only [Nat.reduceLT, Nat.reduceLeDiff, Nat.reduceEqDiff, ↓reduceIte, Int.reduceLT, Int.reduceLE, Int.reduceToNat, Int.reduceEq, Int.reduceNe, Nat.reduceAdd, UInt8.reduceOfNat, UInt16.reduceOfNat, UInt32.reduceOfNat, UInt64.reduceOfNat, UInt64.reduceToNat, UInt32.reduceToNat, UInt16.reduceToNat, UInt8.reduceToNat, Int.reduceAdd, Int.reduceSub, Int.reduceMul, Nat.reduceMul, Qp0, Ql0, Qe0]
  · simp -dsimp -implicitDefEqProofs (disch := first | omega | assumption | (simp only [Option.isSome_some, Qt0]; done) | (simp only [UInt64.reduceToNat, UInt32.reduceToNat, UInt8.reduceToNat, List.length_cons, List.length_nil, List.length_append, Int.toNat_natCast] <;> omega)) only [Nat.reduceLT, Nat.reduceLeDiff, Nat.reduceEqDiff, ↓reduceIte, Int.reduceLT, Int.reduceLE, Int.reduceToNat, Int.reduceEq, Int.reduceNe, Nat.reduceAdd, UInt8.reduceOfNat, UInt16.reduceOfNat, UInt32.reduceOfNat, UInt64.reduceOfNat, UInt64.reduceToNat, UInt32.reduceToNat, UInt16.reduceToNat, UInt8.reduceToNat, Int.reduceAdd, Int.reduceSub, Int.reduceMul, Nat.reduceMul, Qp0, Ql0, Qe0]
    try rfl
  rintro m f h' ⟨i, r, him, hr, f0, f1, f8, f22, f23, rfl⟩
  by_cases hlt : i < n
  · have e2 : decide ((i : Int) < (n : Int)) = true := decide_eq_true (by omega)
    have hrl := (Fm.raws_some i L r hr).1
    have hst := Fm.raws_step i L r hr (by omega)
    have g1 : L.getD (2 * i) 0 = s.getD (a + 2 * i) 0 := by rw [hL, drop_getD]
    have g2 : L.getD (2 * i + 1) 0 = s.getD (a + 2 * i + 1) 0 := by rw [hL, drop_getD, Nat.add_assoc]
    have t1 : ((a : Int) + 2 * (i : Int)).toNat = a + 2 * i := by omega
    have t2 : ((a : Int) + 2 * (i : Int) + 1).toNat = a + 2 * i + 1 := by omega
    obtain ⟨x, hx⟩ : ∃ x, s.getD (a + 2 * i) 0 = x := ⟨_, rfl⟩
    obtain ⟨y, hy⟩ : ∃ y, s.getD (a + 2 * i + 1) 0 = y := ⟨_, rfl⟩
    rw [g1, g2, hx, hy] at hst
    have hset := fill_set r n i (x <<< 4 ||| y &&& 15) hrl hlt
    have hlen : (bs (r ++ List.replicate (n - i) 0)).length = n := by rw [bs_length, List.length_append, List.length_replicate]; omega
    simp -dsimp -implicitDefEqProofs (disch := first | omega | assumption | (simp only [Option.isSome_some, Qt0]; done) | (simp only [UInt64.reduceToNat, UInt32.reduceToNat, UInt8.reduceToNat, List.length_cons, List.length_nil, List.length_append, Int.toNat_natCast] <;> omega)) only [Nat.reduceLT, Nat.reduceLeDiff, Nat.reduceEqDiff, ↓reduceIte, Int.reduceLT, Int.reduceLE, Int.reduceToNat, Int.reduceEq, Int.reduceNe, Nat.reduceAdd, UInt8.reduceOfNat, UInt16.reduceOfNat, UInt32.reduceOfNat, UInt64.reduceOfNat, UInt64.reduceToNat, UInt32.reduceToNat, UInt16.reduceToNat, UInt8.reduceToNat, Int.reduceAdd, Int.reduceSub, Int.reduceMul, Nat.reduceMul, Qp0, Ql0, Qe0, f0, f1, f8, f22, f23, e2]
    refine PW_drawn 15 (h.new b ⟨bs (r ++ List.replicate (n - i) 0), n⟩) (by kernel_rfl) (by kernel_rfl) (by kernel_rfl) (by kernel_rfl) (by kernel_rfl) (fun c f h hq => by simp only [thenC_panic, thenK_panic, inBlk_panic, thenN_panic, vcRet_panic] at hq) (PH.Le.refl _).sub ?_
    by_cases lx : x &&& ~~~15 = 64
    · by_cases ly : y &&& ~~~15 = 64
      · rw [if_pos ⟨by simpa [Fm.lettered] using lx, by simpa [Fm.lettered] using ly⟩] at hst
        simp -dsimp -implicitDefEqProofs (disch := first | omega | assumption | (simp only [Option.isSome_some, Qt0]; done) | (simp only [UInt64.reduceToNat, UInt32.reduceToNat, UInt8.reduceToNat, List.length_cons, List.length_nil, List.length_append, Int.toNat_natCast] <;> omega)) only [Nat.reduceLT, Nat.reduceLeDiff, Nat.reduceEqDiff, ↓reduceIte, Int.reduceLT, Int.reduceLE, Int.reduceToNat, Int.reduceEq, Int.reduceNe, Nat.reduceAdd, UInt8.reduceOfNat, UInt16.reduceOfNat, UInt32.reduceOfNat, UInt64.reduceOfNat, UInt64.reduceToNat, UInt32.reduceToNat, UInt16.reduceToNat, UInt8.reduceToNat, Int.reduceAdd, Int.reduceSub, Int.reduceMul, Nat.reduceMul, Qp0, Ql0, Qe0, f0, f1, f8, f22, f23, t1, t2, hx, hy, lx, ly, hlen, hset, PH.new_new]
        exact ⟨m - 1, _, by omega, PH.Le.refl _, i + 1, _, by omega, hst, trivial, trivial, trivial, trivial, by simp, rfl⟩
      · rw [if_neg (by rintro ⟨_, e⟩; exact ly (by simpa [Fm.lettered] using e))] at hst
        have hno := Fm.raws_mono hst (show i + 1 ≤ n by omega)
        rw [hno]
        simp -dsimp -implicitDefEqProofs (disch := first | omega | assumption | (simp only [Option.isSome_some, Qt0]; done) | (simp only [UInt64.reduceToNat, UInt32.reduceToNat, UInt8.reduceToNat, List.length_cons, List.length_nil, List.length_append, Int.toNat_natCast] <;> omega)) only [Nat.reduceLT, Nat.reduceLeDiff, Nat.reduceEqDiff, ↓reduceIte, Int.reduceLT, Int.reduceLE, Int.reduceToNat, Int.reduceEq, Int.reduceNe, Nat.reduceAdd, UInt8.reduceOfNat, UInt16.reduceOfNat, UInt32.reduceOfNat, UInt64.reduceOfNat, UInt64.reduceToNat, UInt32.reduceToNat, UInt16.reduceToNat, UInt8.reduceToNat, Int.reduceAdd, Int.reduceSub, Int.reduceMul, Nat.reduceMul, Qp0, Ql0, Qe0, f0, f1, f8, f22, f23, t1, t2, hx, hy, lx, ly]
        exact ⟨h, (PH.Le.refl h).new _ _ hb, rfl, rfl⟩
    · rw [if_neg (by rintro ⟨e, _⟩; exact lx (by simpa [Fm.lettered] using e))] at hst
      have hno := Fm.raws_mono hst (show i + 1 ≤ n by omega)
      rw [hno]
      simp -dsimp -implicitDefEqProofs (disch := first | omega | assumption | (simp only [Option.isSome_some, Qt0]; done) | (simp only [UInt64.reduceToNat, UInt32.reduceToNat, UInt8.reduceToNat, List.length_cons, List.length_nil, List.length_append, Int.toNat_natCast] <;> omega)) only [Nat.reduceLT, Nat.reduceLeDiff, Nat.reduceEqDiff, ↓reduceIte, Int.reduceLT, Int.reduceLE, Int.reduceToNat, Int.reduceEq, Int.reduceNe, Nat.reduceAdd, UInt8.reduceOfNat, UInt16.reduceOfNat, UInt32.reduceOfNat, UInt64.reduceOfNat, UInt64.reduceToNat, UInt32.reduceToNat, UInt16.reduceToNat, UInt8.reduceToNat, Int.reduceAdd, Int.reduceSub, Int.reduceMul, Nat.reduceMul, Qp0, Ql0, Qe0, f0, f1, f8, f22, f23, t1, t2, hx, hy, lx]
      exact ⟨h, (PH.Le.refl h).new _ _ hb, rfl, rfl⟩
  · obtain rfl : i = n := by omega
    have e2 : decide ((i : Int) < (i : Int)) = false := decide_eq_false (by omega)
    rw [hr]
    simp -dsimp -implicitDefEqProofs (disch := first | omega | assumption | (simp only [Option.isSome_some, Qt0]; done) | (simp only [UInt64.reduceToNat, UInt32.reduceToNat, UInt8.reduceToNat, List.length_cons, List.length_nil, List.length_append, Int.toNat_natCast] <;> omega)) only [Nat.reduceLT, Nat.reduceLeDiff, Nat.reduceEqDiff, ↓reduceIte, Int.reduceLT, Int.reduceLE, Int.reduceToNat, Int.reduceEq, Int.reduceNe, Nat.reduceAdd, UInt8.reduceOfNat, UInt16.reduceOfNat, UInt32.reduceOfNat, UInt64.reduceOfNat, UInt64.reduceToNat, UInt32.reduceToNat, UInt16.reduceToNat, UInt8.reduceToNat, Int.reduceAdd, Int.reduceSub, Int.reduceMul, Nat.reduceMul, Qp0, Ql0, Qe0, f0, f1, f8, f22, f23, e2]
    refine ⟨_, PH.Le.refl _, b, rfl, hb, ?_⟩
    rw [Nat.sub_self, List.replicate_zero, List.append_nil]
end Go.Proofs.YtpdcbkleolciiaaDoor
