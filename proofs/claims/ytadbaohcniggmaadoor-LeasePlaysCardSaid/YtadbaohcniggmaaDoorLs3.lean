/- Walk of the law's example; leases on both sides. No condition. -/
import Derived.Test.YtadbaohcniggmaaDoorLs2
import Derived.Test.YtadbaohcniggmaaDoorPt
import Derived.Test.YtadbaohcniggmaaDoorPh
import Derived.Test.YtadbaohcniggmaaDoorAt
namespace Go.Proofs.YtadbaohcniggmaaDoor
set_option linter.unusedVariables false
set_option linter.unusedSimpArgs false
open Go.RowKit Px
theorem solo22 (w0 : World) (h : PH) (b lim : Nat) (ys rest : List Value) (hb : h.m b = some ⟨ys ++ rest, lim⟩) : ∃ hS : PH, hS.m b = some ⟨ys, lim⟩ ∧ ∀ (h' : PH) (rest' : List Value), h.top ≤ h'.top → h'.m b = some ⟨ys ++ rest', lim⟩ → PH.Sub w0 hS h' := by
  have hlt := h.lt _ _ hb
  refine ⟨⟨h.top, fun x => if x = b then some ⟨ys, lim⟩ else none, fun x k e => by
    by_cases hx : x = b
    · rw [hx]; exact hlt
    · rw [if_neg hx] at e; cases e⟩, by simp, fun h' rest' ht hm w s => ⟨s.below, Nat.le_trans ht s.top, fun x k e => ?_⟩⟩
  simp only at e
  by_cases hx : x = b
  · rw [if_pos hx] at e
    obtain rfl := Option.some.inj e
    subst hx
    obtain ⟨h1, cur, t, lo, hi, hc, g1, g2, g3, g4⟩ := s.sat x _ hm
    simp only at g1 g2 g3 g4
    refine ⟨h1, cur, t, lo, hi, hc, g1, g2, by simp only; simp only [List.length_append] at g3; omega, ?_⟩
    have h5 := congrArg (List.take ys.length) g4
    rw [List.take_take, List.take_left, List.length_append, Nat.min_eq_left (by omega)] at h5
    exact h5
  · rw [if_neg hx] at e; cases e
theorem allOne22 (l : List Value) (h : (l.all fun v => v.oneCell') = true) : allOne l := fun v hv => List.all_eq_true.1 h v hv
theorem bd16 : ∀ r, bdB 1 2 (fun r => ((List.replicate 17 (0 : Int)).set 2 17).getD r 0) 16 r = false := fun r => by
  rcases Nat.lt_or_ge 2 r with h | h
  · exact bdB_out (by omega)
  · have : r = 0 ∨ r = 1 ∨ r = 2 := by omega
    rcases this with rfl | rfl | rfl <;> decide
theorem lp17 : Lp (bdB 1 2 (fun r => ((List.replicate 17 (0 : Int)).set 2 17).getD r 0) 17) 2 := .inr ⟨2, rfl, by omega, by decide, fun j hj => by
  have : j = 0 ∨ j = 1 := by omega
  rcases this with rfl | rfl <;> decide⟩
set_option maxRecDepth 20000 in
set_option maxHeartbeats 1000000 in
theorem awake22 (w0 : World) (h : PH) : PCalls Tryd.prog w0 4 [] h fun v h' => v = .bool true ∧ PH.Le h h' := by
  refine PCalls_body Tryd.func4 (by kernel_rfl) rfl _ Tryd.ntmps4 (by kernel_rfl) (by kernel_rfl) _ Tryd.results4 ?_
  simp -dsimp -implicitDefEqProofs (disch := first | omega | assumption | (simp only [Option.isSome_some, Qt0]; done) | (simp only [UInt64.reduceToNat, UInt32.reduceToNat, UInt8.reduceToNat, List.length_cons, List.length_nil, List.length_append, Int.toNat_natCast] <;> omega)) only [Nat.reduceLT, Nat.reduceLeDiff, Nat.reduceEqDiff, ↓reduceIte, Int.reduceLT, Int.reduceLE, Int.reduceToNat, Int.reduceEq, Int.reduceNe, Nat.reduceAdd, UInt8.reduceOfNat, UInt16.reduceOfNat, UInt32.reduceOfNat, UInt64.reduceOfNat, UInt64.reduceToNat, UInt32.reduceToNat, UInt16.reduceToNat, UInt8.reduceToNat, Int.reduceAdd, Int.reduceSub, Int.reduceMul, Nat.reduceMul, Qp0, Ql0, Qe0]
  refine (lnew_ok 1 2 (by decide) w0 h).mono ?_
  rintro v h1 ⟨b, rfl, hb, rfl⟩
  have hle := (PH.Le.refl h).new b ⟨lsL 1 2 (List.replicate 17 0), 19⟩ hb
  have hm : (h.new b ⟨lsL 1 2 (List.replicate 17 0), 19⟩).m b = some ⟨lsL 1 2 (List.replicate 17 0), 19⟩ := by rw [PH.new_m, if_pos rfl]
  have hle2 : PH.Le h ((h.new b ⟨lsL 1 2 (List.replicate 17 0), 19⟩).new b ⟨lsL 1 2 ((List.replicate 17 0).set 2 17), 19⟩) := hle.new _ _ hb
  have hm2 : ((h.new b ⟨lsL 1 2 (List.replicate 17 0), 19⟩).new b ⟨lsL 1 2 ((List.replicate 17 0).set 2 17), 19⟩).m b = some ⟨lsL 1 2 ((List.replicate 17 0).set 2 17), 19⟩ := by rw [PH.new_m, if_pos rfl]
  have hG := lgrant_any b 1 2 2 5 9 (List.replicate 17 0) (by decide) (by decide) w0 _ hm
  have hg : gB 1 2 ((List.replicate 17 (0 : Int)).getD (2 : Int).toNat 0) 2 5 9 = true := by decide
  have h2n : (2 : Int).toNat = 2 := rfl
  have h512 : (5 : Int) + 12 = 17 := rfl
  rw [hg, if_pos rfl, h2n, h512] at hG
  have hG := Lib.hid hG
  generalize (h.new b ⟨lsL 1 2 (List.replicate 17 0), 19⟩).new b ⟨lsL 1 2 ((List.replicate 17 0).set 2 17), 19⟩ = h2 at *
  generalize h.new b ⟨lsL 1 2 (List.replicate 17 0), 19⟩ = h1 at *
  have hA := Lib.hid (lgood_any b 1 2 16 ((List.replicate 17 0).set 2 17) (by decide) (by decide) w0 _ hm2)
  have hB := Lib.hid (lgood_any b 1 2 17 ((List.replicate 17 0).set 2 17) (by decide) (by decide) w0 _ hm2)
  simp -dsimp -implicitDefEqProofs (disch := first | omega | assumption | (simp only [Option.isSome_some, Qt0]; done) | (simp only [UInt64.reduceToNat, UInt32.reduceToNat, UInt8.reduceToNat, List.length_cons, List.length_nil, List.length_append, Int.toNat_natCast] <;> omega)) only [Nat.reduceLT, Nat.reduceLeDiff, Nat.reduceEqDiff, ↓reduceIte, Int.reduceLT, Int.reduceLE, Int.reduceToNat, Int.reduceEq, Int.reduceNe, Nat.reduceAdd, UInt8.reduceOfNat, UInt16.reduceOfNat, UInt32.reduceOfNat, UInt64.reduceOfNat, UInt64.reduceToNat, UInt32.reduceToNat, UInt16.reduceToNat, UInt8.reduceToNat, Int.reduceAdd, Int.reduceSub, Int.reduceMul, Nat.reduceMul, Qp0, Ql0, Qe0]
  refine hG.out.mono ?_
  rintro v hz ⟨rfl, hzq⟩
  obtain rfl := hzq.symm
  simp -dsimp -implicitDefEqProofs (disch := first | omega | assumption | (simp only [Option.isSome_some, Qt0]; done) | (simp only [UInt64.reduceToNat, UInt32.reduceToNat, UInt8.reduceToNat, List.length_cons, List.length_nil, List.length_append, Int.toNat_natCast] <;> omega)) only [Nat.reduceLT, Nat.reduceLeDiff, Nat.reduceEqDiff, ↓reduceIte, Int.reduceLT, Int.reduceLE, Int.reduceToNat, Int.reduceEq, Int.reduceNe, Nat.reduceAdd, UInt8.reduceOfNat, UInt16.reduceOfNat, UInt32.reduceOfNat, UInt64.reduceOfNat, UInt64.reduceToNat, UInt32.reduceToNat, UInt16.reduceToNat, UInt8.reduceToNat, Int.reduceAdd, Int.reduceSub, Int.reduceMul, Nat.reduceMul, Qp0, Ql0, Qe0]
  refine hA.out.mono ?_
  rintro v hz ⟨x, hx, hv⟩
  obtain rfl := Lp_one hx (.inl ⟨rfl, bd16⟩)
  rcases hv with ⟨_, rfl, hzq⟩ | ⟨hne, _⟩
  rotate_left
  · exact absurd rfl hne
  obtain rfl := hzq.symm
  simp -dsimp -implicitDefEqProofs (disch := first | omega | assumption | (simp only [Option.isSome_some, Qt0]; done) | (simp only [UInt64.reduceToNat, UInt32.reduceToNat, UInt8.reduceToNat, List.length_cons, List.length_nil, List.length_append, Int.toNat_natCast] <;> omega)) only [Nat.reduceLT, Nat.reduceLeDiff, Nat.reduceEqDiff, ↓reduceIte, Int.reduceLT, Int.reduceLE, Int.reduceToNat, Int.reduceEq, Int.reduceNe, Nat.reduceAdd, UInt8.reduceOfNat, UInt16.reduceOfNat, UInt32.reduceOfNat, UInt64.reduceOfNat, UInt64.reduceToNat, UInt32.reduceToNat, UInt16.reduceToNat, UInt8.reduceToNat, Int.reduceAdd, Int.reduceSub, Int.reduceMul, Nat.reduceMul, Qp0, Ql0, Qe0]
  refine hB.out.mono ?_
  rintro v h3 ⟨x, hx, hv⟩
  obtain rfl := Lp_one hx lp17
  rcases hv with ⟨h0, _⟩ | ⟨_, be, rfl, hbe, rfl⟩
  · cases h0
  have hI := is_any 12 w0 _ _ _ (EV.at (s := leaseT) (a := 2) (show EV _ (.code 12) (codeV 12) from rfl) hbe)
  have hn : ((Er.wrap leaseT 2 (.code 12)).num == 12) = true := by simp [Er.num]
  rw [hn] at hI
  have hI := Lib.hid hI
  have hle3 := hle2.trans ((PH.Le.refl _).new be ⟨[str leaseT, .int .i64 2, codeV 12], 3⟩ hbe)
  unfold errV codeV at *
  simp -dsimp -implicitDefEqProofs (disch := first | omega | assumption | (simp only [Option.isSome_some, Qt0]; done) | (simp only [UInt64.reduceToNat, UInt32.reduceToNat, UInt8.reduceToNat, List.length_cons, List.length_nil, List.length_append, Int.toNat_natCast] <;> omega)) only [Nat.reduceLT, Nat.reduceLeDiff, Nat.reduceEqDiff, ↓reduceIte, Int.reduceLT, Int.reduceLE, Int.reduceToNat, Int.reduceEq, Int.reduceNe, Nat.reduceAdd, UInt8.reduceOfNat, UInt16.reduceOfNat, UInt32.reduceOfNat, UInt64.reduceOfNat, UInt64.reduceToNat, UInt32.reduceToNat, UInt16.reduceToNat, UInt8.reduceToNat, Int.reduceAdd, Int.reduceSub, Int.reduceMul, Nat.reduceMul, Qp0, Ql0, Qe0]
  refine hI.out.mono ?_
  rintro v hz2 ⟨rfl, hzq⟩
  obtain rfl := hzq.symm
  simp -dsimp -implicitDefEqProofs (disch := first | omega | assumption | (simp only [Option.isSome_some, Qt0]; done) | (simp only [UInt64.reduceToNat, UInt32.reduceToNat, UInt8.reduceToNat, List.length_cons, List.length_nil, List.length_append, Int.toNat_natCast] <;> omega)) only [Nat.reduceLT, Nat.reduceLeDiff, Nat.reduceEqDiff, ↓reduceIte, Int.reduceLT, Int.reduceLE, Int.reduceToNat, Int.reduceEq, Int.reduceNe, Nat.reduceAdd, UInt8.reduceOfNat, UInt16.reduceOfNat, UInt32.reduceOfNat, UInt64.reduceOfNat, UInt64.reduceToNat, UInt32.reduceToNat, UInt16.reduceToNat, UInt8.reduceToNat, Int.reduceAdd, Int.reduceSub, Int.reduceMul, Nat.reduceMul, Qp0, Ql0, Qe0]
  exact ⟨_, PH.Le.refl _, by trivial, hle3⟩
/-- Leases on both sides. -/
def ST (region n : Int) (b c d : Nat) (g q : PH) (u W : List Int) : Prop := u.length = 17 ∧ (W.length : Int) = n ∧ (∀ r : Nat, isB region n r = true → u.getD r 0 = W.getD (r - 1) 0) ∧ q.m b = some ⟨lsL region n u, 19⟩ ∧ q.m c = some ⟨wsL region n d W.length, 3⟩ ∧ q.m d = some ⟨iz W, W.length⟩ ∧ PH.Le g q
theorem bd_same {region n : Int} {u W : List Int} (h : ∀ r : Nat, isB region n r = true → u.getD r 0 = W.getD (r - 1) 0) (now : Int) : bdB region n (fun r => u.getD r 0) now = bdB region n (fun r => W.getD (r - 1) 0) now := by
  funext r
  unfold bdB
  cases hi : isB region n r
  · rfl
  · simp only [h r hi]
theorem gB_same {region n : Int} {u W : List Int} (h : ∀ r : Nat, isB region n r = true → u.getD r 0 = W.getD (r - 1) 0) (f a now : Int) : gB region n (u.getD f.toNat 0) f a now = gB region n (W.getD (f - 1).toNat 0) f a now := by
  unfold gB
  cases hi : isB region n f
  · rfl
  · obtain ⟨i1, _, _⟩ := isB_iff.1 hi
    obtain ⟨k, rfl⟩ := Int.eq_ofNat_of_zero_le (show 0 ≤ f by omega)
    rw [show ((k : Int) - 1).toNat = k - 1 by omega, Int.toNat_natCast, h k hi]
theorem set_same {region n : Int} {u W : List Int} (h : ∀ r : Nat, isB region n r = true → u.getD r 0 = W.getD (r - 1) 0) (hu : u.length = 17) (hW : (W.length : Int) = n) (hn : n ≤ 16) {f : Int} (hf : isB region n f = true) (x : Int) : ∀ r : Nat, isB region n r = true → (u.set f.toNat x).getD r 0 = (W.set (f - 1).toNat x).getD (r - 1) 0 := fun r hr => by
  obtain ⟨i1, i2, _⟩ := isB_iff.1 hf
  obtain ⟨j1, j2, _⟩ := isB_iff.1 hr
  obtain ⟨k, rfl⟩ := Int.eq_ofNat_of_zero_le (show 0 ≤ f by omega)
  rw [show ((k : Int) - 1).toNat = k - 1 by omega, Int.toNat_natCast]
  by_cases hk : r = k
  · subst hk
    simp only [List.getD]
    rw [List.getElem?_set_self (by omega), List.getElem?_set_self (by omega)]
  · have := h r hr
    simp only [List.getD] at this ⊢
    rw [List.getElem?_set_ne (fun e => hk e.symm), List.getElem?_set_ne (by omega)]
    exact this
end Go.Proofs.YtadbaohcniggmaaDoor
