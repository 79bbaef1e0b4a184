/- Parts MnF, Sha2, MnD, joined. No condition. -/
import Derived.Test.YtdlaoeepeakpeaaGreatM7A
/- Walk of the program's fold: it takes a block of 64 bytes into eight words as SHA-256 does. -/
namespace Go.Proofs.YtdlaoeepeakpeaaGreat
set_option linter.unusedVariables false
set_option linter.unusedSimpArgs false
open Go.RowKit Px
/-- The words that are made, and nought behind them. -/
def schedCells (blk : List UInt8) (k : Nat) : List Value := wsm (Sha.sched blk k) ++ List.replicate (64 - k) (u32 0)
theorem schedCells_length (blk : List UInt8) (k : Nat) (hk : k ≤ 64) : (schedCells blk k).length = 64 := by
  simp [schedCells, wsm, Sha.sched_length]; omega
theorem schedCells_get (blk : List UInt8) (k i : Nat) (hi : i < k) : (schedCells blk k)[i]? = some (u32 ((Sha.sched blk k).getD i 0)) := by
  have h : i < (Sha.sched blk k).length := by rw [Sha.sched_length]; exact hi
  simp [schedCells, wsm, List.getElem?_append, h, List.getD]
theorem schedCells_zero (blk : List UInt8) (k : Nat) (hk : k < 64) : (schedCells blk k)[k]? = some (u32 0) := by
  simp [schedCells, wsm, List.getElem?_append, Sha.sched_length, List.getElem?_replicate]; omega
theorem schedCells_step (blk : List UInt8) (k : Nat) (hk : k < 64) : (schedCells blk k).set k (u32 (Sha.next blk k (Sha.sched blk k))) = schedCells blk (k + 1) := by
  have h : (wsm (Sha.sched blk k)).length = k := by simp [wsm, Sha.sched_length]
  unfold schedCells
  rw [List.set_append_right _ _ (by omega), h, Nat.sub_self, show 64 - k = (64 - (k + 1)) + 1 by omega, List.replicate_succ, List.set_cons_zero]
  simp [Sha.sched, wsm]
theorem word_eq (blk : List UInt8) (k : Nat) (h : 4 * k + 3 < blk.length) :
    Sha.step (Sha.step (Sha.step (Sha.step 0 (blk.getD (4 * k) 0)) (blk.getD (4 * k + 1) 0)) (blk.getD (4 * k + 2) 0)) (blk.getD (4 * k + 3) 0) = Sha.word blk k := by
  have e (j : Nat) (hj : j < blk.length) : blk.drop j = blk.getD j 0 :: blk.drop (j + 1) := by
    rw [List.drop_eq_getElem_cons hj]; simp [List.getD, List.getElem?_eq_getElem hj]
  unfold Sha.word
  rw [e (4 * k) (by omega), e (4 * k + 1) (by omega), e (4 * k + 2) (by omega), e (4 * k + 3) (by omega)]
  rfl
theorem blk_get {X : List Value} {o : Nat} {blk : List UInt8} (hX : (X.drop o).take 64 = bs blk) (hl : blk.length = 64) (j : Nat) (hj : j < 64) : X[o + j]? = some (u8 (blk.getD j 0)) := by
  have h := congrArg (fun l => l[j]?) hX
  simp only [List.getElem?_take_of_lt hj, List.getElem?_drop] at h
  rw [h]; simp [bs, List.getElem?_eq_getElem (show j < blk.length by omega), List.getD]
/-- The words of round k, the last of them as it is being made. -/
def midCells (blk : List UInt8) (k : Nat) (x : UInt32) : List Value := (schedCells blk k).set k (u32 x)
theorem midCells_length (blk : List UInt8) (k : Nat) (x : UInt32) (hk : k ≤ 64) : (midCells blk k x).length = 64 := by unfold midCells; rw [List.length_set]; exact schedCells_length blk k hk
theorem midCells_get (blk : List UInt8) (k : Nat) (x : UInt32) (hk : k < 64) : (midCells blk k x)[k]? = some (u32 x) := by
  unfold midCells; rw [List.getElem?_set_self (by rw [schedCells_length blk k (by omega)]; omega)]
theorem midCells_set (blk : List UInt8) (k : Nat) (x y : UInt32) : (midCells blk k x).set k (u32 y) = midCells blk k y := by
  unfold midCells; rw [List.set_set]
theorem midCells_zero (blk : List UInt8) (k : Nat) (hk : k < 64) : midCells blk k 0 = schedCells blk k := by
  unfold midCells
  apply List.ext_getElem?
  intro i
  by_cases hi : i = k
  · subst hi; rw [List.getElem?_set_self (by rw [schedCells_length blk i (by omega)]; omega), schedCells_zero blk i hk]
  · rw [List.getElem?_set_ne (by omega)]
theorem next_ge (blk : List UInt8) (k : Nat) (x0 x1 x2 x3 : UInt32) (l : List UInt32) (hk : 16 ≤ k) (h0 : l.getD (k - 15) 0 = x0) (h1 : l.getD (k - 2) 0 = x1) (h2 : l.getD (k - 16) 0 = x2) (h3 : l.getD (k - 7) 0 = x3) :
    x2 + (Sha.rotr x0 7 ^^^ Sha.rotr x0 18 ^^^ x0 >>> 3) + x3 + (Sha.rotr x1 17 ^^^ Sha.rotr x1 19 ^^^ x1 >>> 10) = Sha.next blk k l := by
  unfold Sha.next
  rw [if_neg (by omega), h0, h1, h2, h3]
  unfold Sha.s0 Sha.s1
  ac_rfl
theorem Sha_next_lt (blk : List UInt8) (k : Nat) (l : List UInt32) (h : k < 16) : Sha.next blk k l = Sha.word blk k := by unfold Sha.next; rw [if_pos h]
/-- The first k of eight words added. -/
def addL (h s : Sha.St) (k : Nat) : List UInt32 := (List.zipWith (· + ·) h.list s.list).take k ++ h.list.drop k
theorem addL_get (h s : Sha.St) (k : Nat) (hk : k < 8) : ∃ x y, (addL h s k)[k]? = some x ∧ s.list[k]? = some y ∧ (addL h s k).set k (x + y) = addL h s (k + 1) := by
  rcases (show k = 0 ∨ k = 1 ∨ k = 2 ∨ k = 3 ∨ k = 4 ∨ k = 5 ∨ k = 6 ∨ k = 7 by omega) with rfl | rfl | rfl | rfl | rfl | rfl | rfl | rfl
  all_goals exact ⟨_, _, rfl, rfl, rfl⟩
theorem addL_zero (h s : Sha.St) : addL h s 0 = h.list := rfl
theorem addL_all (h s : Sha.St) : addL h s 8 = (Sha.addSt h s).list := rfl
theorem addL_length (h s : Sha.St) (k : Nat) (hk : k ≤ 8) : (addL h s k).length = 8 := by
  simp [addL, Sha.St.list]; omega
set_option maxRecDepth 100000 in
set_option maxHeartbeats 4000000 in
theorem fold_any (st : Sha.St) (blk : List UInt8) (b o c : Nat) (X : List Value) (lim : Nat) (w0 : World) (h : PH) (hlen : blk.length = 64) (hc : 64 ≤ c) (hb : h.m b = some ⟨X, lim⟩) (hX : (X.drop o).take 64 = bs blk) :
    PCalls Tryz.prog w0 71 [.agg (wsm st.list).toArray, .slice (some ⟨b, o, none⟩) 64 c] h fun v h' => v = .agg (wsm (Sha.comp st blk).list).toArray ∧ h' = h := by
  have hbt := h.lt _ _ hb
  have GB := Lib.hid (blk_get hX hlen)
  clear hX
  refine PCalls_body Tryz.func71 (by kernel_rfl) rfl _ Tryz.ntmps71 (by kernel_rfl) (by kernel_rfl) _ Tryz.results71 ?_
  simp -dsimp -implicitDefEqProofs (disch := first | omega | assumption | (simp only [Option.isSome_some,Qt0]; done) | (simp only [UInt64.reduceToNat,UInt32.reduceToNat,UInt8.reduceToNat,List.length_cons,List.length_nil,List.length_append,Int.toNat_natCast] <;> omega)) only [Nat.reduceLT,Nat.reduceLeDiff,Nat.reduceEqDiff,↓reduceIte,Int.reduceLT,Int.reduceLE,Int.reduceToNat,Int.reduceEq,Int.reduceNe,Nat.reduceAdd,UInt8.reduceOfNat,UInt16.reduceOfNat,UInt32.reduceOfNat,UInt64.reduceOfNat,UInt64.reduceToNat,UInt32.reduceToNat,UInt16.reduceToNat,UInt8.reduceToNat,Int.reduceAdd,Int.reduceSub,Int.reduceMul,Nat.reduceMul,Qp0,Ql0,Qe0]
  refine fun b2 hb2 => ?_
  simp -dsimp -implicitDefEqProofs (disch := first | omega | assumption | (simp only [Option.isSome_some,Qt0]; done) | (simp only [UInt64.reduceToNat,UInt32.reduceToNat,UInt8.reduceToNat,List.length_cons,List.length_nil,List.length_append,Int.toNat_natCast] <;> omega)) only [Nat.reduceLT,Nat.reduceLeDiff,Nat.reduceEqDiff,↓reduceIte,Int.reduceLT,Int.reduceLE,Int.reduceToNat,Int.reduceEq,Int.reduceNe,Nat.reduceAdd,UInt8.reduceOfNat,UInt16.reduceOfNat,UInt32.reduceOfNat,UInt64.reduceOfNat,UInt64.reduceToNat,UInt32.reduceToNat,UInt16.reduceToNat,UInt8.reduceToNat,Int.reduceAdd,Int.reduceSub,Int.reduceMul,Nat.reduceMul,Qp0,Ql0,Qe0]
  refine fun b4 hb4 => ?_
  simp -dsimp -implicitDefEqProofs (disch := first | omega | assumption | (simp only [Option.isSome_some,Qt0]; done) | (simp only [UInt64.reduceToNat,UInt32.reduceToNat,UInt8.reduceToNat,List.length_cons,List.length_nil,List.length_append,Int.toNat_natCast] <;> omega)) only [Nat.reduceLT,Nat.reduceLeDiff,Nat.reduceEqDiff,↓reduceIte,Int.reduceLT,Int.reduceLE,Int.reduceToNat,Int.reduceEq,Int.reduceNe,Nat.reduceAdd,UInt8.reduceOfNat,UInt16.reduceOfNat,UInt32.reduceOfNat,UInt64.reduceOfNat,UInt64.reduceToNat,UInt32.reduceToNat,UInt16.reduceToNat,UInt8.reduceToNat,Int.reduceAdd,Int.reduceSub,Int.reduceMul,Nat.reduceMul,Qp0,Ql0,Qe0]
  refine fun b5 hb5 => ?_
  simp only [PH.new_top] at hb4 hb5
  simp -dsimp -implicitDefEqProofs (disch := first | omega | assumption | (simp only [Option.isSome_some,Qt0]; done) | (simp only [UInt64.reduceToNat,UInt32.reduceToNat,UInt8.reduceToNat,List.length_cons,List.length_nil,List.length_append,Int.toNat_natCast] <;> omega)) only [Nat.reduceLT,Nat.reduceLeDiff,Nat.reduceEqDiff,↓reduceIte,Int.reduceLT,Int.reduceLE,Int.reduceToNat,Int.reduceEq,Int.reduceNe,Nat.reduceAdd,UInt8.reduceOfNat,UInt16.reduceOfNat,UInt32.reduceOfNat,UInt64.reduceOfNat,UInt64.reduceToNat,UInt32.reduceToNat,UInt16.reduceToNat,UInt8.reduceToNat,Int.reduceAdd,Int.reduceSub,Int.reduceMul,Nat.reduceMul,Qp0,Ql0,Qe0]
  obtain ⟨HH, hHH⟩ : ∃ HH : List Value → PH, ∀ S, HH S = ((h.new b2 ⟨wsm st.list, 8⟩).new b4 ⟨List.replicate 8 (u32 0), 8⟩).new b5 ⟨S, 64⟩ := ⟨_, fun _ => rfl⟩
  have m5 : ∀ S, (HH S).m b5 = some ⟨S, 64⟩ := fun S => by rw [hHH, PH.new_m, if_pos rfl]
  have m2 : ∀ S, (HH S).m b2 = some ⟨wsm st.list, 8⟩ := fun S => by rw [hHH, PH.new_m, if_neg (by omega), PH.new_m, if_neg (by omega), PH.new_m, if_pos rfl]
  have mb : ∀ S, (HH S).m b = some ⟨X, lim⟩ := fun S => by rw [hHH, PH.new_m, if_neg (by omega), PH.new_m, if_neg (by omega), PH.new_m, if_neg (by omega), hb]
  have mn : ∀ S S', (HH S).new b5 ⟨S', 64⟩ = HH S' := fun S S' => by rw [hHH, hHH, PH.new_new]
  refine PW_loop (fun n f h' => ∃ k : Nat, k ≤ 64 ∧ n = 64 - k ∧ f 1 = some (.slice (some ⟨b, o, none⟩) 64 c) ∧ f 2 = some (.pointer (some ⟨b2, 0, none⟩)) ∧ f 4 = some (.pointer (some ⟨b4, 0, none⟩)) ∧ f 5 = some (.pointer (some ⟨b5, 0, none⟩)) ∧ f 19 = some (.int .i64 k) ∧ h' = HH (schedCells blk k)) (by kernel_rfl) 64 ⟨0, by omega, by omega, ?_, ?_, ?_, ?_, ?_, ?_⟩ ?_
  · simp -dsimp -implicitDefEqProofs (disch := first | omega | assumption | (simp only [Option.isSome_some,Qt0]; done) | (simp only [UInt64.reduceToNat,UInt32.reduceToNat,UInt8.reduceToNat,List.length_cons,List.length_nil,List.length_append,Int.toNat_natCast] <;> omega)) only [Nat.reduceLT,Nat.reduceLeDiff,Nat.reduceEqDiff,↓reduceIte,Int.reduceLT,Int.reduceLE,Int.reduceToNat,Int.reduceEq,Int.reduceNe,Nat.reduceAdd,UInt8.reduceOfNat,UInt16.reduceOfNat,UInt32.reduceOfNat,UInt64.reduceOfNat,UInt64.reduceToNat,UInt32.reduceToNat,UInt16.reduceToNat,UInt8.reduceToNat,Int.reduceAdd,Int.reduceSub,Int.reduceMul,Nat.reduceMul,Qp0,Ql0,Qe0]
  · simp -dsimp -implicitDefEqProofs (disch := first | omega | assumption | (simp only [Option.isSome_some,Qt0]; done) | (simp only [UInt64.reduceToNat,UInt32.reduceToNat,UInt8.reduceToNat,List.length_cons,List.length_nil,List.length_append,Int.toNat_natCast] <;> omega)) only [Nat.reduceLT,Nat.reduceLeDiff,Nat.reduceEqDiff,↓reduceIte,Int.reduceLT,Int.reduceLE,Int.reduceToNat,Int.reduceEq,Int.reduceNe,Nat.reduceAdd,UInt8.reduceOfNat,UInt16.reduceOfNat,UInt32.reduceOfNat,UInt64.reduceOfNat,UInt64.reduceToNat,UInt32.reduceToNat,UInt16.reduceToNat,UInt8.reduceToNat,Int.reduceAdd,Int.reduceSub,Int.reduceMul,Nat.reduceMul,Qp0,Ql0,Qe0]
  · simp -dsimp -implicitDefEqProofs (disch := first | omega | assumption | (simp only [Option.isSome_some,Qt0]; done) | (simp only [UInt64.reduceToNat,UInt32.reduceToNat,UInt8.reduceToNat,List.length_cons,List.length_nil,List.length_append,Int.toNat_natCast] <;> omega)) only [Nat.reduceLT,Nat.reduceLeDiff,Nat.reduceEqDiff,↓reduceIte,Int.reduceLT,Int.reduceLE,Int.reduceToNat,Int.reduceEq,Int.reduceNe,Nat.reduceAdd,UInt8.reduceOfNat,UInt16.reduceOfNat,UInt32.reduceOfNat,UInt64.reduceOfNat,UInt64.reduceToNat,UInt32.reduceToNat,UInt16.reduceToNat,UInt8.reduceToNat,Int.reduceAdd,Int.reduceSub,Int.reduceMul,Nat.reduceMul,Qp0,Ql0,Qe0]
  · simp -dsimp -implicitDefEqProofs (disch := first | omega | assumption | (simp only [Option.isSome_some,Qt0]; done) | (simp only [UInt64.reduceToNat,UInt32.reduceToNat,UInt8.reduceToNat,List.length_cons,List.length_nil,List.length_append,Int.toNat_natCast] <;> omega)) only [Nat.reduceLT,Nat.reduceLeDiff,Nat.reduceEqDiff,↓reduceIte,Int.reduceLT,Int.reduceLE,Int.reduceToNat,Int.reduceEq,Int.reduceNe,Nat.reduceAdd,UInt8.reduceOfNat,UInt16.reduceOfNat,UInt32.reduceOfNat,UInt64.reduceOfNat,UInt64.reduceToNat,UInt32.reduceToNat,UInt16.reduceToNat,UInt8.reduceToNat,Int.reduceAdd,Int.reduceSub,Int.reduceMul,Nat.reduceMul,Qp0,Ql0,Qe0]
  · simp -dsimp -implicitDefEqProofs (disch := first | omega | assumption | (simp only [Option.isSome_some,Qt0]; done) | (simp only [UInt64.reduceToNat,UInt32.reduceToNat,UInt8.reduceToNat,List.length_cons,List.length_nil,List.length_append,Int.toNat_natCast] <;> omega)) only [Nat.reduceLT,Nat.reduceLeDiff,Nat.reduceEqDiff,↓reduceIte,Int.reduceLT,Int.reduceLE,Int.reduceToNat,Int.reduceEq,Int.reduceNe,Nat.reduceAdd,UInt8.reduceOfNat,UInt16.reduceOfNat,UInt32.reduceOfNat,UInt64.reduceOfNat,UInt64.reduceToNat,UInt32.reduceToNat,UInt16.reduceToNat,UInt8.reduceToNat,Int.reduceAdd,Int.reduceSub,Int.reduceMul,Nat.reduceMul,Qp0,Ql0,Qe0]
    try rfl
  · rw [hHH]; rfl
  rintro n f h' ⟨k, hk, rfl, g1, g2, g4, g5, g19, rfl⟩
  by_cases hk64 : k < 64
  · by_cases hk16 : k < 16
    · have tk : (4 * (k : Int)).toNat = 4 * k := by omega
      have tk4 : (4 * (k : Int) + 4).toNat = 4 * k + 4 := by omega
      have l4 : 4 * k + 4 - 4 * k = 4 := by omega
      have hcut : decide (c = 4 * k) = false := decide_eq_false (by omega)
      have q0 : X[o + 4 * k]? = some (u8 (blk.getD (4 * k) 0)) := GB.out _ (by omega)
      have q1 : X[o + 4 * k + 1]? = some (u8 (blk.getD (4 * k + 1) 0)) := by rw [Nat.add_assoc]; exact GB.out _ (by omega)
      have q2 : X[o + 4 * k + 2]? = some (u8 (blk.getD (4 * k + 2) 0)) := by rw [Nat.add_assoc]; exact GB.out _ (by omega)
      have q3 : X[o + 4 * k + 3]? = some (u8 (blk.getD (4 * k + 3) 0)) := by rw [Nat.add_assoc]; exact GB.out _ (by omega)
      have we := Lib.hid (word_eq blk k (by omega))
      have hst := Lib.hid (schedCells_step blk k hk64)
      have hlt := Lib.hid (Sha_next_lt blk k (Sha.sched blk k) hk16)
      generalize blk.getD (4 * k) 0 = c0 at *
      generalize blk.getD (4 * k + 1) 0 = c1 at *
      generalize blk.getD (4 * k + 2) 0 = c2 at *
      generalize blk.getD (4 * k + 3) 0 = c3 at *
      have ml : ∀ x, (midCells blk k x).length = 64 := fun x => midCells_length blk k x (by omega)
      have mg : ∀ x, (midCells blk k x)[k]? = some (u32 x) := fun x => midCells_get blk k x hk64
      have ms : ∀ x y, (midCells blk k x).set k (u32 y) = midCells blk k y := midCells_set blk k
      rw [← midCells_zero blk k hk64]
      simp -dsimp -implicitDefEqProofs (disch := first | omega | assumption | (simp only [Option.isSome_some,Qt0]; done) | (simp only [UInt64.reduceToNat,UInt32.reduceToNat,UInt8.reduceToNat,List.length_cons,List.length_nil,List.length_append,Int.toNat_natCast] <;> omega)) only [Nat.reduceLT,Nat.reduceLeDiff,Nat.reduceEqDiff,↓reduceIte,Int.reduceLT,Int.reduceLE,Int.reduceToNat,Int.reduceEq,Int.reduceNe,Nat.reduceAdd,UInt8.reduceOfNat,UInt16.reduceOfNat,UInt32.reduceOfNat,UInt64.reduceOfNat,UInt64.reduceToNat,UInt32.reduceToNat,UInt16.reduceToNat,UInt8.reduceToNat,Int.reduceAdd,Int.reduceSub,Int.reduceMul,Nat.reduceMul,Qp0,Ql0,Qe0,g1,g2,g4,g5,g19,tk,tk4,l4,hcut,cutAt]
      refine PW_rounds 5 (by kernel_rfl) ?_
      simp -dsimp -implicitDefEqProofs (disch := first | omega | assumption | (simp only [Option.isSome_some,Qt0]; done) | (simp only [UInt64.reduceToNat,UInt32.reduceToNat,UInt8.reduceToNat,List.length_cons,List.length_nil,List.length_append,Int.toNat_natCast] <;> omega)) only [Nat.reduceLT,Nat.reduceLeDiff,Nat.reduceEqDiff,↓reduceIte,Int.reduceLT,Int.reduceLE,Int.reduceToNat,Int.reduceEq,Int.reduceNe,Nat.reduceAdd,UInt8.reduceOfNat,UInt16.reduceOfNat,UInt32.reduceOfNat,UInt64.reduceOfNat,UInt64.reduceToNat,UInt32.reduceToNat,UInt16.reduceToNat,UInt8.reduceToNat,Int.reduceAdd,Int.reduceSub,Int.reduceMul,Nat.reduceMul,Qp0,Ql0,Qe0,g1,g2,g4,g5,g19,tk,tk4,l4,hcut,cutAt,rd_M,rdM_some,m5,mb,mn,q0,q1,q2,q3,ml,mg,ms,Sha.step_alt]
      rw [we.out, ← hlt.out]
      unfold midCells
      rw [hst.out]
      exact ⟨_, _, by omega, PH.Le.refl _, k + 1, by omega, rfl, trivial, trivial, trivial, trivial, by simp, rfl⟩
    · have t15 : ((k : Int) - 15).toNat = k - 15 := by omega
      have t2 : ((k : Int) - 2).toNat = k - 2 := by omega
      have t16 : ((k : Int) - 16).toNat = k - 16 := by omega
      have t7 : ((k : Int) - 7).toNat = k - 7 := by omega
      have hsub : ∀ k', k ≤ k' → k' ≤ 64 → (schedCells blk k').take k = wsm (Sha.sched blk k) → PH.Sub w0 (HH (wsm (Sha.sched blk k))) (HH (schedCells blk k')) := fun k' _ _ e => by rw [hHH, hHH, ← e]; exact PH.sub_cut _ _ _ _ _
      have hwl : (wsm (Sha.sched blk k)).length = k := by simp [wsm, Sha.sched_length]
      have e0 : (schedCells blk k).take k = wsm (Sha.sched blk k) := by unfold schedCells; rw [List.take_append_of_le_length (by omega), List.take_of_length_le (by omega)]
      have e1 : (schedCells blk (k + 1)).take k = wsm (Sha.sched blk k) := by
        rw [← schedCells_step blk k hk64, List.take_set_of_le (by omega), e0]
      have wg : ∀ j, j < k → (wsm (Sha.sched blk k))[j]? = some (u32 ((Sha.sched blk k).getD j 0)) := fun j hj => by
        simp [wsm, List.getElem?_eq_getElem (show j < (Sha.sched blk k).length by rw [Sha.sched_length]; exact hj), List.getD]
      have w15 := wg (k - 15) (by omega)
      have w2 := wg (k - 2) (by omega)
      have w16 := wg (k - 16) (by omega)
      have w7 := wg (k - 7) (by omega)
      obtain ⟨x0, hx0⟩ : ∃ x, (Sha.sched blk k).getD (k - 15) 0 = x := ⟨_, rfl⟩
      obtain ⟨x1, hx1⟩ : ∃ x, (Sha.sched blk k).getD (k - 2) 0 = x := ⟨_, rfl⟩
      obtain ⟨x2, hx2⟩ : ∃ x, (Sha.sched blk k).getD (k - 16) 0 = x := ⟨_, rfl⟩
      obtain ⟨x3, hx3⟩ : ∃ x, (Sha.sched blk k).getD (k - 7) 0 = x := ⟨_, rfl⟩
      have hng := Lib.hid (next_ge blk k x0 x1 x2 x3 _ (by omega) hx0 hx1 hx2 hx3)
      rw [hx0] at w15
      rw [hx1] at w2
      rw [hx2] at w16
      rw [hx3] at w7
      have sl := schedCells_length blk k hk
      have hst := Lib.hid (schedCells_step blk k hk64)
      have sub0 := hsub k (by omega) hk e0
      have sub1 := hsub (k + 1) (by omega) (by omega) e1
      simp -dsimp -implicitDefEqProofs (disch := first | omega | assumption | (simp only [Option.isSome_some,Qt0]; done) | (simp only [UInt64.reduceToNat,UInt32.reduceToNat,UInt8.reduceToNat,List.length_cons,List.length_nil,List.length_append,Int.toNat_natCast] <;> omega)) only [Nat.reduceLT,Nat.reduceLeDiff,Nat.reduceEqDiff,↓reduceIte,Int.reduceLT,Int.reduceLE,Int.reduceToNat,Int.reduceEq,Int.reduceNe,Nat.reduceAdd,UInt8.reduceOfNat,UInt16.reduceOfNat,UInt32.reduceOfNat,UInt64.reduceOfNat,UInt64.reduceToNat,UInt32.reduceToNat,UInt16.reduceToNat,UInt8.reduceToNat,Int.reduceAdd,Int.reduceSub,Int.reduceMul,Nat.reduceMul,Qp0,Ql0,Qe0,g1,g2,g4,g5,g19]
      refine PW_drawn 10 (HH (wsm (Sha.sched blk k))) (by kernel_rfl) (by kernel_rfl) (by kernel_rfl) (by kernel_rfl) (by kernel_rfl) (fun c f h hq => by simp only [thenC_panic, thenK_panic, inBlk_panic, thenN_panic, vcRet_panic] at hq) sub0 ?_
      simp -dsimp -implicitDefEqProofs (disch := first | omega | assumption | (simp only [Option.isSome_some,Qt0]; done) | (simp only [UInt64.reduceToNat,UInt32.reduceToNat,UInt8.reduceToNat,List.length_cons,List.length_nil,List.length_append,Int.toNat_natCast] <;> omega)) only [Nat.reduceLT,Nat.reduceLeDiff,Nat.reduceEqDiff,↓reduceIte,Int.reduceLT,Int.reduceLE,Int.reduceToNat,Int.reduceEq,Int.reduceNe,Nat.reduceAdd,UInt8.reduceOfNat,UInt16.reduceOfNat,UInt32.reduceOfNat,UInt64.reduceOfNat,UInt64.reduceToNat,UInt32.reduceToNat,UInt16.reduceToNat,UInt8.reduceToNat,Int.reduceAdd,Int.reduceSub,Int.reduceMul,Nat.reduceMul,Qp0,Ql0,Qe0,g1,g2,g4,g5,g19,rd_M,rdM_some,m5,t15,t2,w15,w2]
      refine PW_plan [0, 1, 2, 3, 4, 5, 7, 10, 11, 14, 15, 16, 17, 19, 21, 24, 25, 6, 8, 9, 12, 13, 18, 20, 22, 23, 26, 27, 28, 29] (HH (wsm (Sha.sched blk k))) (by kernel_rfl) (by decide +kernel) (by kernel_rfl) (by kernel_rfl) (by kernel_rfl) (fun c f h hq => by simp only [thenC_panic, thenK_panic, inBlk_panic, thenN_panic, vcRet_panic] at hq) sub0 ?_
      simp -dsimp -implicitDefEqProofs (disch := first | omega | assumption | (simp only [Option.isSome_some,Qt0]; done) | (simp only [UInt64.reduceToNat,UInt32.reduceToNat,UInt8.reduceToNat,List.length_cons,List.length_nil,List.length_append,Int.toNat_natCast] <;> omega)) only [Nat.reduceLT,Nat.reduceLeDiff,Nat.reduceEqDiff,↓reduceIte,Int.reduceLT,Int.reduceLE,Int.reduceToNat,Int.reduceEq,Int.reduceNe,Nat.reduceAdd,UInt8.reduceOfNat,UInt16.reduceOfNat,UInt32.reduceOfNat,UInt64.reduceOfNat,UInt64.reduceToNat,UInt32.reduceToNat,UInt16.reduceToNat,UInt8.reduceToNat,Int.reduceAdd,Int.reduceSub,Int.reduceMul,Nat.reduceMul,Qp0,Ql0,Qe0,g1,g2,g4,g5,g19,rd_M,rdM_some,m5,t16,w16,t7,w7]
      refine (rotl_any x0 25 (by omega) (by omega) w0 _).mono ?_
      rintro v h1 ⟨rfl, rfl⟩
      simp -dsimp -implicitDefEqProofs (disch := first | omega | assumption | (simp only [Option.isSome_some,Qt0]; done) | (simp only [UInt64.reduceToNat,UInt32.reduceToNat,UInt8.reduceToNat,List.length_cons,List.length_nil,List.length_append,Int.toNat_natCast] <;> omega)) only [Nat.reduceLT,Nat.reduceLeDiff,Nat.reduceEqDiff,↓reduceIte,Int.reduceLT,Int.reduceLE,Int.reduceToNat,Int.reduceEq,Int.reduceNe,Nat.reduceAdd,UInt8.reduceOfNat,UInt16.reduceOfNat,UInt32.reduceOfNat,UInt64.reduceOfNat,UInt64.reduceToNat,UInt32.reduceToNat,UInt16.reduceToNat,UInt8.reduceToNat,Int.reduceAdd,Int.reduceSub,Int.reduceMul,Nat.reduceMul,Qp0,Ql0,Qe0,g1,g2,g4,g5,g19,rd_M,rdM_some,m5,mn,t16,w16,t7,w7,sl]
      refine ⟨sub0, ?_⟩
      simp -dsimp -implicitDefEqProofs (disch := first | omega | assumption | (simp only [Option.isSome_some,Qt0]; done) | (simp only [UInt64.reduceToNat,UInt32.reduceToNat,UInt8.reduceToNat,List.length_cons,List.length_nil,List.length_append,Int.toNat_natCast] <;> omega)) only [Nat.reduceLT,Nat.reduceLeDiff,Nat.reduceEqDiff,↓reduceIte,Int.reduceLT,Int.reduceLE,Int.reduceToNat,Int.reduceEq,Int.reduceNe,Nat.reduceAdd,UInt8.reduceOfNat,UInt16.reduceOfNat,UInt32.reduceOfNat,UInt64.reduceOfNat,UInt64.reduceToNat,UInt32.reduceToNat,UInt16.reduceToNat,UInt8.reduceToNat,Int.reduceAdd,Int.reduceSub,Int.reduceMul,Nat.reduceMul,Qp0,Ql0,Qe0,g1,g2,g4,g5,g19,rd_M,rdM_some,m5,mn,t16,w16,t7,w7,sl]
      refine (rotl_any x0 14 (by omega) (by omega) w0 _).mono ?_
      rintro v h1 ⟨rfl, rfl⟩
      simp -dsimp -implicitDefEqProofs (disch := first | omega | assumption | (simp only [Option.isSome_some,Qt0]; done) | (simp only [UInt64.reduceToNat,UInt32.reduceToNat,UInt8.reduceToNat,List.length_cons,List.length_nil,List.length_append,Int.toNat_natCast] <;> omega)) only [Nat.reduceLT,Nat.reduceLeDiff,Nat.reduceEqDiff,↓reduceIte,Int.reduceLT,Int.reduceLE,Int.reduceToNat,Int.reduceEq,Int.reduceNe,Nat.reduceAdd,UInt8.reduceOfNat,UInt16.reduceOfNat,UInt32.reduceOfNat,UInt64.reduceOfNat,UInt64.reduceToNat,UInt32.reduceToNat,UInt16.reduceToNat,UInt8.reduceToNat,Int.reduceAdd,Int.reduceSub,Int.reduceMul,Nat.reduceMul,Qp0,Ql0,Qe0,g1,g2,g4,g5,g19,rd_M,rdM_some,m5,mn,t16,w16,t7,w7,sl]
      refine ⟨sub0, ?_⟩
      simp -dsimp -implicitDefEqProofs (disch := first | omega | assumption | (simp only [Option.isSome_some,Qt0]; done) | (simp only [UInt64.reduceToNat,UInt32.reduceToNat,UInt8.reduceToNat,List.length_cons,List.length_nil,List.length_append,Int.toNat_natCast] <;> omega)) only [Nat.reduceLT,Nat.reduceLeDiff,Nat.reduceEqDiff,↓reduceIte,Int.reduceLT,Int.reduceLE,Int.reduceToNat,Int.reduceEq,Int.reduceNe,Nat.reduceAdd,UInt8.reduceOfNat,UInt16.reduceOfNat,UInt32.reduceOfNat,UInt64.reduceOfNat,UInt64.reduceToNat,UInt32.reduceToNat,UInt16.reduceToNat,UInt8.reduceToNat,Int.reduceAdd,Int.reduceSub,Int.reduceMul,Nat.reduceMul,Qp0,Ql0,Qe0,g1,g2,g4,g5,g19,rd_M,rdM_some,m5,mn,t16,w16,t7,w7,sl]
      refine (rotl_any x1 15 (by omega) (by omega) w0 _).mono ?_
      rintro v h1 ⟨rfl, rfl⟩
      simp -dsimp -implicitDefEqProofs (disch := first | omega | assumption | (simp only [Option.isSome_some,Qt0]; done) | (simp only [UInt64.reduceToNat,UInt32.reduceToNat,UInt8.reduceToNat,List.length_cons,List.length_nil,List.length_append,Int.toNat_natCast] <;> omega)) only [Nat.reduceLT,Nat.reduceLeDiff,Nat.reduceEqDiff,↓reduceIte,Int.reduceLT,Int.reduceLE,Int.reduceToNat,Int.reduceEq,Int.reduceNe,Nat.reduceAdd,UInt8.reduceOfNat,UInt16.reduceOfNat,UInt32.reduceOfNat,UInt64.reduceOfNat,UInt64.reduceToNat,UInt32.reduceToNat,UInt16.reduceToNat,UInt8.reduceToNat,Int.reduceAdd,Int.reduceSub,Int.reduceMul,Nat.reduceMul,Qp0,Ql0,Qe0,g1,g2,g4,g5,g19,rd_M,rdM_some,m5,mn,t16,w16,t7,w7,sl]
      refine ⟨sub0, ?_⟩
      simp -dsimp -implicitDefEqProofs (disch := first | omega | assumption | (simp only [Option.isSome_some,Qt0]; done) | (simp only [UInt64.reduceToNat,UInt32.reduceToNat,UInt8.reduceToNat,List.length_cons,List.length_nil,List.length_append,Int.toNat_natCast] <;> omega)) only [Nat.reduceLT,Nat.reduceLeDiff,Nat.reduceEqDiff,↓reduceIte,Int.reduceLT,Int.reduceLE,Int.reduceToNat,Int.reduceEq,Int.reduceNe,Nat.reduceAdd,UInt8.reduceOfNat,UInt16.reduceOfNat,UInt32.reduceOfNat,UInt64.reduceOfNat,UInt64.reduceToNat,UInt32.reduceToNat,UInt16.reduceToNat,UInt8.reduceToNat,Int.reduceAdd,Int.reduceSub,Int.reduceMul,Nat.reduceMul,Qp0,Ql0,Qe0,g1,g2,g4,g5,g19,rd_M,rdM_some,m5,mn,t16,w16,t7,w7,sl]
      refine (rotl_any x1 13 (by omega) (by omega) w0 _).mono ?_
      rintro v h1 ⟨rfl, rfl⟩
      simp -dsimp -implicitDefEqProofs (disch := first | omega | assumption | (simp only [Option.isSome_some,Qt0]; done) | (simp only [UInt64.reduceToNat,UInt32.reduceToNat,UInt8.reduceToNat,List.length_cons,List.length_nil,List.length_append,Int.toNat_natCast] <;> omega)) only [Nat.reduceLT,Nat.reduceLeDiff,Nat.reduceEqDiff,↓reduceIte,Int.reduceLT,Int.reduceLE,Int.reduceToNat,Int.reduceEq,Int.reduceNe,Nat.reduceAdd,UInt8.reduceOfNat,UInt16.reduceOfNat,UInt32.reduceOfNat,UInt64.reduceOfNat,UInt64.reduceToNat,UInt32.reduceToNat,UInt16.reduceToNat,UInt8.reduceToNat,Int.reduceAdd,Int.reduceSub,Int.reduceMul,Nat.reduceMul,Qp0,Ql0,Qe0,g1,g2,g4,g5,g19,rd_M,rdM_some,m5,mn,t16,w16,t7,w7,sl]
      refine ⟨sub0, ?_⟩
      simp -dsimp -implicitDefEqProofs (disch := first | omega | assumption | (simp only [Option.isSome_some,Qt0]; done) | (simp only [UInt64.reduceToNat,UInt32.reduceToNat,UInt8.reduceToNat,List.length_cons,List.length_nil,List.length_append,Int.toNat_natCast] <;> omega)) only [Nat.reduceLT,Nat.reduceLeDiff,Nat.reduceEqDiff,↓reduceIte,Int.reduceLT,Int.reduceLE,Int.reduceToNat,Int.reduceEq,Int.reduceNe,Nat.reduceAdd,UInt8.reduceOfNat,UInt16.reduceOfNat,UInt32.reduceOfNat,UInt64.reduceOfNat,UInt64.reduceToNat,UInt32.reduceToNat,UInt16.reduceToNat,UInt8.reduceToNat,Int.reduceAdd,Int.reduceSub,Int.reduceMul,Nat.reduceMul,Qp0,Ql0,Qe0,g1,g2,g4,g5,g19,rd_M,rdM_some,m5,mn,t16,w16,t7,w7,sl]
      have hcell : ∀ y, y = x2 + (Sha.rotr x0 7 ^^^ Sha.rotr x0 18 ^^^ x0 >>> 3) + x3 + (Sha.rotr x1 17 ^^^ Sha.rotr x1 19 ^^^ x1 >>> 10) → (schedCells blk k).set k (u32 y) = schedCells blk (k + 1) := fun y e => by rw [e, hng.out, hst.out]
      rw [show UInt32.ofNat (32 - 25) = 7 from rfl, show UInt32.ofNat (32 - 14) = 18 from rfl, show UInt32.ofNat (32 - 15) = 17 from rfl, show UInt32.ofNat (32 - 13) = 19 from rfl, hcell _ rfl]
      refine ⟨sub1, ?_⟩
      simp -dsimp -implicitDefEqProofs (disch := first | omega | assumption | (simp only [Option.isSome_some,Qt0]; done) | (simp only [UInt64.reduceToNat,UInt32.reduceToNat,UInt8.reduceToNat,List.length_cons,List.length_nil,List.length_append,Int.toNat_natCast] <;> omega)) only [Nat.reduceLT,Nat.reduceLeDiff,Nat.reduceEqDiff,↓reduceIte,Int.reduceLT,Int.reduceLE,Int.reduceToNat,Int.reduceEq,Int.reduceNe,Nat.reduceAdd,UInt8.reduceOfNat,UInt16.reduceOfNat,UInt32.reduceOfNat,UInt64.reduceOfNat,UInt64.reduceToNat,UInt32.reduceToNat,UInt16.reduceToNat,UInt8.reduceToNat,Int.reduceAdd,Int.reduceSub,Int.reduceMul,Nat.reduceMul,Qp0,Ql0,Qe0,g1,g2,g4,g5,g19]
      exact ⟨_, _, by omega, PH.Le.refl _, k + 1, by omega, rfl, by simp [g1], by simp [g2], by simp [g4], by simp [g5], by simp, rfl⟩
  · obtain rfl : k = 64 := by omega
    have r2 : ∀ S, rdN w0 (HH S) ⟨b2, 0, none⟩ 8 = some (wsm st.list) := fun S => rdN_known (m2 S) rfl
    simp -dsimp -implicitDefEqProofs (disch := first | omega | assumption | (simp only [Option.isSome_some,Qt0]; done) | (simp only [UInt64.reduceToNat,UInt32.reduceToNat,UInt8.reduceToNat,List.length_cons,List.length_nil,List.length_append,Int.toNat_natCast] <;> omega)) only [Nat.reduceLT,Nat.reduceLeDiff,Nat.reduceEqDiff,↓reduceIte,Int.reduceLT,Int.reduceLE,Int.reduceToNat,Int.reduceEq,Int.reduceNe,Nat.reduceAdd,UInt8.reduceOfNat,UInt16.reduceOfNat,UInt32.reduceOfNat,UInt64.reduceOfNat,UInt64.reduceToNat,UInt32.reduceToNat,UInt16.reduceToNat,UInt8.reduceToNat,Int.reduceAdd,Int.reduceSub,Int.reduceMul,Nat.reduceMul,Qp0,Ql0,Qe0,g1,g2,g4,g5,g19,r2]
    refine fun b11 hb11 => ?_
    have HL : (wsm st.list).length = 8 := rfl
    have H1 := wsm_one st.list
    simp -dsimp -implicitDefEqProofs (disch := first | omega | assumption | (simp only [Option.isSome_some,Qt0]; done) | (simp only [UInt64.reduceToNat,UInt32.reduceToNat,UInt8.reduceToNat,List.length_cons,List.length_nil,List.length_append,Int.toNat_natCast] <;> omega)) only [Nat.reduceLT,Nat.reduceLeDiff,Nat.reduceEqDiff,↓reduceIte,Int.reduceLT,Int.reduceLE,Int.reduceToNat,Int.reduceEq,Int.reduceNe,Nat.reduceAdd,UInt8.reduceOfNat,UInt16.reduceOfNat,UInt32.reduceOfNat,UInt64.reduceOfNat,UInt64.reduceToNat,UInt32.reduceToNat,UInt16.reduceToNat,UInt8.reduceToNat,Int.reduceAdd,Int.reduceSub,Int.reduceMul,Nat.reduceMul,Qp0,Ql0,Qe0,g1,g2,g4,g5,g19,HL]
    refine (turns_any w0 _).mono ?_
    rintro v h1 ⟨rfl, rfl⟩
    simp -dsimp -implicitDefEqProofs (disch := first | omega | assumption | (simp only [Option.isSome_some,Qt0]; done) | (simp only [UInt64.reduceToNat,UInt32.reduceToNat,UInt8.reduceToNat,List.length_cons,List.length_nil,List.length_append,Int.toNat_natCast] <;> omega)) only [Nat.reduceLT,Nat.reduceLeDiff,Nat.reduceEqDiff,↓reduceIte,Int.reduceLT,Int.reduceLE,Int.reduceToNat,Int.reduceEq,Int.reduceNe,Nat.reduceAdd,UInt8.reduceOfNat,UInt16.reduceOfNat,UInt32.reduceOfNat,UInt64.reduceOfNat,UInt64.reduceToNat,UInt32.reduceToNat,UInt16.reduceToNat,UInt8.reduceToNat,Int.reduceAdd,Int.reduceSub,Int.reduceMul,Nat.reduceMul,Qp0,Ql0,Qe0,g1,g2,g4,g5,g19]
    rw [hHH] at hb11
    simp only [PH.new_top] at hb11
    obtain ⟨HF, hHF⟩ : ∃ HF : List Value → PH, ∀ S, HF S = (HH (schedCells blk 64)).new b11 ⟨S, 8⟩ := ⟨_, fun _ => rfl⟩
    have mf11 : ∀ S, (HF S).m b11 = some ⟨S, 8⟩ := fun S => by rw [hHF, PH.new_m, if_pos rfl]
    have mf5 : ∀ S, (HF S).m b5 = some ⟨schedCells blk 64, 64⟩ := fun S => by rw [hHF, PH.new_m, if_neg (by omega), m5]
    have mf2 : ∀ S, (HF S).m b2 = some ⟨wsm st.list, 8⟩ := fun S => by rw [hHF, PH.new_m, if_neg (by omega), m2]
    have mfn : ∀ S S', (HF S).new b11 ⟨S', 8⟩ = HF S' := fun S S' => by rw [hHF, hHF, PH.new_new]
    refine PW_loop (fun n f h' => ∃ (i : Nat) (s : Sha.St), i ≤ 64 ∧ n = 64 - i ∧ s = Sha.rounds (Sha.sched blk 64) i st ∧ f 2 = some (.pointer (some ⟨b2, 0, none⟩)) ∧ f 4 = some (.pointer (some ⟨b4, 0, none⟩)) ∧ f 5 = some (.pointer (some ⟨b5, 0, none⟩)) ∧ f 11 = some (.pointer (some ⟨b11, 0, none⟩)) ∧ f 85 = some (.agg (wsm Sha.K).toArray) ∧ f 86 = some (.int .i64 i) ∧ h' = HF (wsm s.list)) (by kernel_rfl) 64 ⟨0, st, by omega, by omega, rfl, ?_, ?_, ?_, ?_, ?_, ?_, ?_⟩ ?_
    · simp -dsimp -implicitDefEqProofs (disch := first | omega | assumption | (simp only [Option.isSome_some,Qt0]; done) | (simp only [UInt64.reduceToNat,UInt32.reduceToNat,UInt8.reduceToNat,List.length_cons,List.length_nil,List.length_append,Int.toNat_natCast] <;> omega)) only [Nat.reduceLT,Nat.reduceLeDiff,Nat.reduceEqDiff,↓reduceIte,Int.reduceLT,Int.reduceLE,Int.reduceToNat,Int.reduceEq,Int.reduceNe,Nat.reduceAdd,UInt8.reduceOfNat,UInt16.reduceOfNat,UInt32.reduceOfNat,UInt64.reduceOfNat,UInt64.reduceToNat,UInt32.reduceToNat,UInt16.reduceToNat,UInt8.reduceToNat,Int.reduceAdd,Int.reduceSub,Int.reduceMul,Nat.reduceMul,Qp0,Ql0,Qe0,g2]
    · simp -dsimp -implicitDefEqProofs (disch := first | omega | assumption | (simp only [Option.isSome_some,Qt0]; done) | (simp only [UInt64.reduceToNat,UInt32.reduceToNat,UInt8.reduceToNat,List.length_cons,List.length_nil,List.length_append,Int.toNat_natCast] <;> omega)) only [Nat.reduceLT,Nat.reduceLeDiff,Nat.reduceEqDiff,↓reduceIte,Int.reduceLT,Int.reduceLE,Int.reduceToNat,Int.reduceEq,Int.reduceNe,Nat.reduceAdd,UInt8.reduceOfNat,UInt16.reduceOfNat,UInt32.reduceOfNat,UInt64.reduceOfNat,UInt64.reduceToNat,UInt32.reduceToNat,UInt16.reduceToNat,UInt8.reduceToNat,Int.reduceAdd,Int.reduceSub,Int.reduceMul,Nat.reduceMul,Qp0,Ql0,Qe0,g4]
    · simp -dsimp -implicitDefEqProofs (disch := first | omega | assumption | (simp only [Option.isSome_some,Qt0]; done) | (simp only [UInt64.reduceToNat,UInt32.reduceToNat,UInt8.reduceToNat,List.length_cons,List.length_nil,List.length_append,Int.toNat_natCast] <;> omega)) only [Nat.reduceLT,Nat.reduceLeDiff,Nat.reduceEqDiff,↓reduceIte,Int.reduceLT,Int.reduceLE,Int.reduceToNat,Int.reduceEq,Int.reduceNe,Nat.reduceAdd,UInt8.reduceOfNat,UInt16.reduceOfNat,UInt32.reduceOfNat,UInt64.reduceOfNat,UInt64.reduceToNat,UInt32.reduceToNat,UInt16.reduceToNat,UInt8.reduceToNat,Int.reduceAdd,Int.reduceSub,Int.reduceMul,Nat.reduceMul,Qp0,Ql0,Qe0,g5]
    · simp -dsimp -implicitDefEqProofs (disch := first | omega | assumption | (simp only [Option.isSome_some,Qt0]; done) | (simp only [UInt64.reduceToNat,UInt32.reduceToNat,UInt8.reduceToNat,List.length_cons,List.length_nil,List.length_append,Int.toNat_natCast] <;> omega)) only [Nat.reduceLT,Nat.reduceLeDiff,Nat.reduceEqDiff,↓reduceIte,Int.reduceLT,Int.reduceLE,Int.reduceToNat,Int.reduceEq,Int.reduceNe,Nat.reduceAdd,UInt8.reduceOfNat,UInt16.reduceOfNat,UInt32.reduceOfNat,UInt64.reduceOfNat,UInt64.reduceToNat,UInt32.reduceToNat,UInt16.reduceToNat,UInt8.reduceToNat,Int.reduceAdd,Int.reduceSub,Int.reduceMul,Nat.reduceMul,Qp0,Ql0,Qe0]
    · simp -dsimp -implicitDefEqProofs (disch := first | omega | assumption | (simp only [Option.isSome_some,Qt0]; done) | (simp only [UInt64.reduceToNat,UInt32.reduceToNat,UInt8.reduceToNat,List.length_cons,List.length_nil,List.length_append,Int.toNat_natCast] <;> omega)) only [Nat.reduceLT,Nat.reduceLeDiff,Nat.reduceEqDiff,↓reduceIte,Int.reduceLT,Int.reduceLE,Int.reduceToNat,Int.reduceEq,Int.reduceNe,Nat.reduceAdd,UInt8.reduceOfNat,UInt16.reduceOfNat,UInt32.reduceOfNat,UInt64.reduceOfNat,UInt64.reduceToNat,UInt32.reduceToNat,UInt16.reduceToNat,UInt8.reduceToNat,Int.reduceAdd,Int.reduceSub,Int.reduceMul,Nat.reduceMul,Qp0,Ql0,Qe0]
    · simp -dsimp -implicitDefEqProofs (disch := first | omega | assumption | (simp only [Option.isSome_some,Qt0]; done) | (simp only [UInt64.reduceToNat,UInt32.reduceToNat,UInt8.reduceToNat,List.length_cons,List.length_nil,List.length_append,Int.toNat_natCast] <;> omega)) only [Nat.reduceLT,Nat.reduceLeDiff,Nat.reduceEqDiff,↓reduceIte,Int.reduceLT,Int.reduceLE,Int.reduceToNat,Int.reduceEq,Int.reduceNe,Nat.reduceAdd,UInt8.reduceOfNat,UInt16.reduceOfNat,UInt32.reduceOfNat,UInt64.reduceOfNat,UInt64.reduceToNat,UInt32.reduceToNat,UInt16.reduceToNat,UInt8.reduceToNat,Int.reduceAdd,Int.reduceSub,Int.reduceMul,Nat.reduceMul,Qp0,Ql0,Qe0]
      try rfl
    · rw [hHF, PH.new_new]; rfl
    rintro n f2 h2 ⟨i, s, hi, rfl, hs, e2, e4, e5, e11, e85, e86, rfl⟩
    by_cases hi64 : i < 64
    · obtain ⟨va, vb, vc, vd, ve, vf, vg, vh⟩ := s
      obtain ⟨S, hS⟩ : ∃ S, S = wsm (Sha.St.list ⟨va, vb, vc, vd, ve, vf, vg, vh⟩) := ⟨_, rfl⟩
      have c0 : S[0]? = some (u32 va) := by rw [hS]; rfl
      have c1 : S[1]? = some (u32 vb) := by rw [hS]; rfl
      have c2 : S[2]? = some (u32 vc) := by rw [hS]; rfl
      have c3 : S[3]? = some (u32 vd) := by rw [hS]; rfl
      have c4 : S[4]? = some (u32 ve) := by rw [hS]; rfl
      have c5 : S[5]? = some (u32 vf) := by rw [hS]; rfl
      have c6 : S[6]? = some (u32 vg) := by rw [hS]; rfl
      have c7 : S[7]? = some (u32 vh) := by rw [hS]; rfl
      have hSl : S.length = 8 := by rw [hS]; rfl
      have HK : (wsm Sha.K).length = 64 := rfl
      obtain ⟨kt, hkt⟩ : ∃ x, x = Sha.K.getD i 0 := ⟨_, rfl⟩
      obtain ⟨wt, hwt⟩ : ∃ x, x = (Sha.sched blk 64).getD i 0 := ⟨_, rfl⟩
      have kg : (wsm Sha.K).getD i undef = u32 kt := by
        have : i < Sha.K.length := hi64
        rw [hkt]; simp [wsm, List.getD, List.getElem?_map, List.getElem?_eq_getElem this]
      have wg : (schedCells blk 64)[i]? = some (u32 wt) := by rw [hwt]; exact schedCells_get blk 64 i hi64
      rw [← hS]
      simp -dsimp -implicitDefEqProofs (disch := first | omega | assumption | (simp only [Option.isSome_some,Qt0]; done) | (simp only [UInt64.reduceToNat,UInt32.reduceToNat,UInt8.reduceToNat,List.length_cons,List.length_nil,List.length_append,Int.toNat_natCast] <;> omega)) only [Nat.reduceLT,Nat.reduceLeDiff,Nat.reduceEqDiff,↓reduceIte,Int.reduceLT,Int.reduceLE,Int.reduceToNat,Int.reduceEq,Int.reduceNe,Nat.reduceAdd,UInt8.reduceOfNat,UInt16.reduceOfNat,UInt32.reduceOfNat,UInt64.reduceOfNat,UInt64.reduceToNat,UInt32.reduceToNat,UInt16.reduceToNat,UInt8.reduceToNat,Int.reduceAdd,Int.reduceSub,Int.reduceMul,Nat.reduceMul,Qp0,Ql0,Qe0,e2,e4,e5,e11,e85,e86,kg]
      refine PW_drawn 6 (HF S) (by kernel_rfl) (by kernel_rfl) (by kernel_rfl) (by kernel_rfl) (by kernel_rfl) (fun c f h hq => by simp only [thenC_panic, thenK_panic, inBlk_panic, thenN_panic, vcRet_panic] at hq) (PH.Le.refl _).sub ?_
      simp -dsimp -implicitDefEqProofs (disch := first | omega | assumption | (simp only [Option.isSome_some,Qt0]; done) | (simp only [UInt64.reduceToNat,UInt32.reduceToNat,UInt8.reduceToNat,List.length_cons,List.length_nil,List.length_append,Int.toNat_natCast] <;> omega)) only [Nat.reduceLT,Nat.reduceLeDiff,Nat.reduceEqDiff,↓reduceIte,Int.reduceLT,Int.reduceLE,Int.reduceToNat,Int.reduceEq,Int.reduceNe,Nat.reduceAdd,UInt8.reduceOfNat,UInt16.reduceOfNat,UInt32.reduceOfNat,UInt64.reduceOfNat,UInt64.reduceToNat,UInt32.reduceToNat,UInt16.reduceToNat,UInt8.reduceToNat,Int.reduceAdd,Int.reduceSub,Int.reduceMul,Nat.reduceMul,Qp0,Ql0,Qe0,e2,e4,e5,e11,e85,e86,rd_M,rdM_some,mf5,mf2,mf11,c0,c1,c2,c3,c4,c5,c6,c7,kg,wg,hSl]
      refine PW_plan [0, 1, 2, 4, 7, 11, 12, 13, 14, 15, 16, 17, 18, 19, 20, 22, 24, 25, 26, 3, 5, 6, 8, 9, 10, 21, 23, 27, 28] (HF S) (by kernel_rfl) (by decide +kernel) (by kernel_rfl) (by kernel_rfl) (by kernel_rfl) (fun c f h hq => by simp only [thenC_panic, thenK_panic, inBlk_panic, thenN_panic, vcRet_panic] at hq) (PH.Le.refl _).sub ?_
      simp -dsimp -implicitDefEqProofs (disch := first | omega | assumption | (simp only [Option.isSome_some,Qt0]; done) | (simp only [UInt64.reduceToNat,UInt32.reduceToNat,UInt8.reduceToNat,List.length_cons,List.length_nil,List.length_append,Int.toNat_natCast] <;> omega)) only [Nat.reduceLT,Nat.reduceLeDiff,Nat.reduceEqDiff,↓reduceIte,Int.reduceLT,Int.reduceLE,Int.reduceToNat,Int.reduceEq,Int.reduceNe,Nat.reduceAdd,UInt8.reduceOfNat,UInt16.reduceOfNat,UInt32.reduceOfNat,UInt64.reduceOfNat,UInt64.reduceToNat,UInt32.reduceToNat,UInt16.reduceToNat,UInt8.reduceToNat,Int.reduceAdd,Int.reduceSub,Int.reduceMul,Nat.reduceMul,Qp0,Ql0,Qe0,e2,e4,e5,e11,e85,e86,rd_M,rdM_some,mf5,mf2,mf11,c0,c1,c2,c3,c4,c5,c6,c7,kg,wg,hSl]
      refine (rotl_any ve 26 (by omega) (by omega) w0 _).mono ?_
      rintro v h1 ⟨rfl, rfl⟩
      simp -dsimp -implicitDefEqProofs (disch := first | omega | assumption | (simp only [Option.isSome_some,Qt0]; done) | (simp only [UInt64.reduceToNat,UInt32.reduceToNat,UInt8.reduceToNat,List.length_cons,List.length_nil,List.length_append,Int.toNat_natCast] <;> omega)) only [Nat.reduceLT,Nat.reduceLeDiff,Nat.reduceEqDiff,↓reduceIte,Int.reduceLT,Int.reduceLE,Int.reduceToNat,Int.reduceEq,Int.reduceNe,Nat.reduceAdd,UInt8.reduceOfNat,UInt16.reduceOfNat,UInt32.reduceOfNat,UInt64.reduceOfNat,UInt64.reduceToNat,UInt32.reduceToNat,UInt16.reduceToNat,UInt8.reduceToNat,Int.reduceAdd,Int.reduceSub,Int.reduceMul,Nat.reduceMul,Qp0,Ql0,Qe0,e2,e4,e5,e11,e85,e86,rd_M,rdM_some,mf5,mf2,mf11,c0,c1,c2,c3,c4,c5,c6,c7,kg,wg,hSl]
      refine ⟨(PH.Le.refl _).sub, ?_⟩
      simp -dsimp -implicitDefEqProofs (disch := first | omega | assumption | (simp only [Option.isSome_some,Qt0]; done) | (simp only [UInt64.reduceToNat,UInt32.reduceToNat,UInt8.reduceToNat,List.length_cons,List.length_nil,List.length_append,Int.toNat_natCast] <;> omega)) only [Nat.reduceLT,Nat.reduceLeDiff,Nat.reduceEqDiff,↓reduceIte,Int.reduceLT,Int.reduceLE,Int.reduceToNat,Int.reduceEq,Int.reduceNe,Nat.reduceAdd,UInt8.reduceOfNat,UInt16.reduceOfNat,UInt32.reduceOfNat,UInt64.reduceOfNat,UInt64.reduceToNat,UInt32.reduceToNat,UInt16.reduceToNat,UInt8.reduceToNat,Int.reduceAdd,Int.reduceSub,Int.reduceMul,Nat.reduceMul,Qp0,Ql0,Qe0,e2,e4,e5,e11,e85,e86,rd_M,rdM_some,mf5,mf2,mf11,c0,c1,c2,c3,c4,c5,c6,c7,kg,wg,hSl]
      refine (rotl_any ve 21 (by omega) (by omega) w0 _).mono ?_
      rintro v h1 ⟨rfl, rfl⟩
      simp -dsimp -implicitDefEqProofs (disch := first | omega | assumption | (simp only [Option.isSome_some,Qt0]; done) | (simp only [UInt64.reduceToNat,UInt32.reduceToNat,UInt8.reduceToNat,List.length_cons,List.length_nil,List.length_append,Int.toNat_natCast] <;> omega)) only [Nat.reduceLT,Nat.reduceLeDiff,Nat.reduceEqDiff,↓reduceIte,Int.reduceLT,Int.reduceLE,Int.reduceToNat,Int.reduceEq,Int.reduceNe,Nat.reduceAdd,UInt8.reduceOfNat,UInt16.reduceOfNat,UInt32.reduceOfNat,UInt64.reduceOfNat,UInt64.reduceToNat,UInt32.reduceToNat,UInt16.reduceToNat,UInt8.reduceToNat,Int.reduceAdd,Int.reduceSub,Int.reduceMul,Nat.reduceMul,Qp0,Ql0,Qe0,e2,e4,e5,e11,e85,e86,rd_M,rdM_some,mf5,mf2,mf11,c0,c1,c2,c3,c4,c5,c6,c7,kg,wg,hSl]
      refine ⟨(PH.Le.refl _).sub, ?_⟩
      simp -dsimp -implicitDefEqProofs (disch := first | omega | assumption | (simp only [Option.isSome_some,Qt0]; done) | (simp only [UInt64.reduceToNat,UInt32.reduceToNat,UInt8.reduceToNat,List.length_cons,List.length_nil,List.length_append,Int.toNat_natCast] <;> omega)) only [Nat.reduceLT,Nat.reduceLeDiff,Nat.reduceEqDiff,↓reduceIte,Int.reduceLT,Int.reduceLE,Int.reduceToNat,Int.reduceEq,Int.reduceNe,Nat.reduceAdd,UInt8.reduceOfNat,UInt16.reduceOfNat,UInt32.reduceOfNat,UInt64.reduceOfNat,UInt64.reduceToNat,UInt32.reduceToNat,UInt16.reduceToNat,UInt8.reduceToNat,Int.reduceAdd,Int.reduceSub,Int.reduceMul,Nat.reduceMul,Qp0,Ql0,Qe0,e2,e4,e5,e11,e85,e86,rd_M,rdM_some,mf5,mf2,mf11,c0,c1,c2,c3,c4,c5,c6,c7,kg,wg,hSl]
      refine (rotl_any ve 7 (by omega) (by omega) w0 _).mono ?_
      rintro v h1 ⟨rfl, rfl⟩
      simp -dsimp -implicitDefEqProofs (disch := first | omega | assumption | (simp only [Option.isSome_some,Qt0]; done) | (simp only [UInt64.reduceToNat,UInt32.reduceToNat,UInt8.reduceToNat,List.length_cons,List.length_nil,List.length_append,Int.toNat_natCast] <;> omega)) only [Nat.reduceLT,Nat.reduceLeDiff,Nat.reduceEqDiff,↓reduceIte,Int.reduceLT,Int.reduceLE,Int.reduceToNat,Int.reduceEq,Int.reduceNe,Nat.reduceAdd,UInt8.reduceOfNat,UInt16.reduceOfNat,UInt32.reduceOfNat,UInt64.reduceOfNat,UInt64.reduceToNat,UInt32.reduceToNat,UInt16.reduceToNat,UInt8.reduceToNat,Int.reduceAdd,Int.reduceSub,Int.reduceMul,Nat.reduceMul,Qp0,Ql0,Qe0,e2,e4,e5,e11,e85,e86,rd_M,rdM_some,mf5,mf2,mf11,c0,c1,c2,c3,c4,c5,c6,c7,kg,wg,hSl]
      refine ⟨(PH.Le.refl _).sub, ?_⟩
      simp -dsimp -implicitDefEqProofs (disch := first | omega | assumption | (simp only [Option.isSome_some,Qt0]; done) | (simp only [UInt64.reduceToNat,UInt32.reduceToNat,UInt8.reduceToNat,List.length_cons,List.length_nil,List.length_append,Int.toNat_natCast] <;> omega)) only [Nat.reduceLT,Nat.reduceLeDiff,Nat.reduceEqDiff,↓reduceIte,Int.reduceLT,Int.reduceLE,Int.reduceToNat,Int.reduceEq,Int.reduceNe,Nat.reduceAdd,UInt8.reduceOfNat,UInt16.reduceOfNat,UInt32.reduceOfNat,UInt64.reduceOfNat,UInt64.reduceToNat,UInt32.reduceToNat,UInt16.reduceToNat,UInt8.reduceToNat,Int.reduceAdd,Int.reduceSub,Int.reduceMul,Nat.reduceMul,Qp0,Ql0,Qe0,e2,e4,e5,e11,e85,e86,rd_M,rdM_some,mf5,mf2,mf11,c0,c1,c2,c3,c4,c5,c6,c7,kg,wg,hSl]
      refine PW_plan [0, 2, 5, 8, 9, 10, 11, 12, 13, 14, 15, 16, 17, 18, 19, 20, 1, 3, 4, 6, 7, 21, 22] (HF S) (by kernel_rfl) (by decide +kernel) (by kernel_rfl) (by kernel_rfl) (by kernel_rfl) (fun c f h hq => by simp only [thenC_panic, thenK_panic, inBlk_panic, thenN_panic, vcRet_panic] at hq) (PH.Le.refl _).sub ?_
      simp -dsimp -implicitDefEqProofs (disch := first | omega | assumption | (simp only [Option.isSome_some,Qt0]; done) | (simp only [UInt64.reduceToNat,UInt32.reduceToNat,UInt8.reduceToNat,List.length_cons,List.length_nil,List.length_append,Int.toNat_natCast] <;> omega)) only [Nat.reduceLT,Nat.reduceLeDiff,Nat.reduceEqDiff,↓reduceIte,Int.reduceLT,Int.reduceLE,Int.reduceToNat,Int.reduceEq,Int.reduceNe,Nat.reduceAdd,UInt8.reduceOfNat,UInt16.reduceOfNat,UInt32.reduceOfNat,UInt64.reduceOfNat,UInt64.reduceToNat,UInt32.reduceToNat,UInt16.reduceToNat,UInt8.reduceToNat,Int.reduceAdd,Int.reduceSub,Int.reduceMul,Nat.reduceMul,Qp0,Ql0,Qe0,e2,e4,e5,e11,e85,e86,rd_M,rdM_some,mf5,mf2,mf11,c0,c1,c2,c3,c4,c5,c6,c7,kg,wg,hSl]
      refine (rotl_any va 30 (by omega) (by omega) w0 _).mono ?_
      rintro v h1 ⟨rfl, rfl⟩
      simp -dsimp -implicitDefEqProofs (disch := first | omega | assumption | (simp only [Option.isSome_some,Qt0]; done) | (simp only [UInt64.reduceToNat,UInt32.reduceToNat,UInt8.reduceToNat,List.length_cons,List.length_nil,List.length_append,Int.toNat_natCast] <;> omega)) only [Nat.reduceLT,Nat.reduceLeDiff,Nat.reduceEqDiff,↓reduceIte,Int.reduceLT,Int.reduceLE,Int.reduceToNat,Int.reduceEq,Int.reduceNe,Nat.reduceAdd,UInt8.reduceOfNat,UInt16.reduceOfNat,UInt32.reduceOfNat,UInt64.reduceOfNat,UInt64.reduceToNat,UInt32.reduceToNat,UInt16.reduceToNat,UInt8.reduceToNat,Int.reduceAdd,Int.reduceSub,Int.reduceMul,Nat.reduceMul,Qp0,Ql0,Qe0,e2,e4,e5,e11,e85,e86,rd_M,rdM_some,mf5,mf2,mf11,c0,c1,c2,c3,c4,c5,c6,c7,kg,wg,hSl]
      refine ⟨(PH.Le.refl _).sub, ?_⟩
      simp -dsimp -implicitDefEqProofs (disch := first | omega | assumption | (simp only [Option.isSome_some,Qt0]; done) | (simp only [UInt64.reduceToNat,UInt32.reduceToNat,UInt8.reduceToNat,List.length_cons,List.length_nil,List.length_append,Int.toNat_natCast] <;> omega)) only [Nat.reduceLT,Nat.reduceLeDiff,Nat.reduceEqDiff,↓reduceIte,Int.reduceLT,Int.reduceLE,Int.reduceToNat,Int.reduceEq,Int.reduceNe,Nat.reduceAdd,UInt8.reduceOfNat,UInt16.reduceOfNat,UInt32.reduceOfNat,UInt64.reduceOfNat,UInt64.reduceToNat,UInt32.reduceToNat,UInt16.reduceToNat,UInt8.reduceToNat,Int.reduceAdd,Int.reduceSub,Int.reduceMul,Nat.reduceMul,Qp0,Ql0,Qe0,e2,e4,e5,e11,e85,e86,rd_M,rdM_some,mf5,mf2,mf11,c0,c1,c2,c3,c4,c5,c6,c7,kg,wg,hSl]
      refine (rotl_any va 19 (by omega) (by omega) w0 _).mono ?_
      rintro v h1 ⟨rfl, rfl⟩
      simp -dsimp -implicitDefEqProofs (disch := first | omega | assumption | (simp only [Option.isSome_some,Qt0]; done) | (simp only [UInt64.reduceToNat,UInt32.reduceToNat,UInt8.reduceToNat,List.length_cons,List.length_nil,List.length_append,Int.toNat_natCast] <;> omega)) only [Nat.reduceLT,Nat.reduceLeDiff,Nat.reduceEqDiff,↓reduceIte,Int.reduceLT,Int.reduceLE,Int.reduceToNat,Int.reduceEq,Int.reduceNe,Nat.reduceAdd,UInt8.reduceOfNat,UInt16.reduceOfNat,UInt32.reduceOfNat,UInt64.reduceOfNat,UInt64.reduceToNat,UInt32.reduceToNat,UInt16.reduceToNat,UInt8.reduceToNat,Int.reduceAdd,Int.reduceSub,Int.reduceMul,Nat.reduceMul,Qp0,Ql0,Qe0,e2,e4,e5,e11,e85,e86,rd_M,rdM_some,mf5,mf2,mf11,c0,c1,c2,c3,c4,c5,c6,c7,kg,wg,hSl]
      refine ⟨(PH.Le.refl _).sub, ?_⟩
      simp -dsimp -implicitDefEqProofs (disch := first | omega | assumption | (simp only [Option.isSome_some,Qt0]; done) | (simp only [UInt64.reduceToNat,UInt32.reduceToNat,UInt8.reduceToNat,List.length_cons,List.length_nil,List.length_append,Int.toNat_natCast] <;> omega)) only [Nat.reduceLT,Nat.reduceLeDiff,Nat.reduceEqDiff,↓reduceIte,Int.reduceLT,Int.reduceLE,Int.reduceToNat,Int.reduceEq,Int.reduceNe,Nat.reduceAdd,UInt8.reduceOfNat,UInt16.reduceOfNat,UInt32.reduceOfNat,UInt64.reduceOfNat,UInt64.reduceToNat,UInt32.reduceToNat,UInt16.reduceToNat,UInt8.reduceToNat,Int.reduceAdd,Int.reduceSub,Int.reduceMul,Nat.reduceMul,Qp0,Ql0,Qe0,e2,e4,e5,e11,e85,e86,rd_M,rdM_some,mf5,mf2,mf11,c0,c1,c2,c3,c4,c5,c6,c7,kg,wg,hSl]
      refine (rotl_any va 10 (by omega) (by omega) w0 _).mono ?_
      rintro v h1 ⟨rfl, rfl⟩
      simp -dsimp -implicitDefEqProofs (disch := first | omega | assumption | (simp only [Option.isSome_some,Qt0]; done) | (simp only [UInt64.reduceToNat,UInt32.reduceToNat,UInt8.reduceToNat,List.length_cons,List.length_nil,List.length_append,Int.toNat_natCast] <;> omega)) only [Nat.reduceLT,Nat.reduceLeDiff,Nat.reduceEqDiff,↓reduceIte,Int.reduceLT,Int.reduceLE,Int.reduceToNat,Int.reduceEq,Int.reduceNe,Nat.reduceAdd,UInt8.reduceOfNat,UInt16.reduceOfNat,UInt32.reduceOfNat,UInt64.reduceOfNat,UInt64.reduceToNat,UInt32.reduceToNat,UInt16.reduceToNat,UInt8.reduceToNat,Int.reduceAdd,Int.reduceSub,Int.reduceMul,Nat.reduceMul,Qp0,Ql0,Qe0,e2,e4,e5,e11,e85,e86,rd_M,rdM_some,mf5,mf2,mf11,c0,c1,c2,c3,c4,c5,c6,c7,kg,wg,hSl]
      refine ⟨(PH.Le.refl _).sub, ?_⟩
      simp -dsimp -implicitDefEqProofs (disch := first | omega | assumption | (simp only [Option.isSome_some,Qt0]; done) | (simp only [UInt64.reduceToNat,UInt32.reduceToNat,UInt8.reduceToNat,List.length_cons,List.length_nil,List.length_append,Int.toNat_natCast] <;> omega)) only [Nat.reduceLT,Nat.reduceLeDiff,Nat.reduceEqDiff,↓reduceIte,Int.reduceLT,Int.reduceLE,Int.reduceToNat,Int.reduceEq,Int.reduceNe,Nat.reduceAdd,UInt8.reduceOfNat,UInt16.reduceOfNat,UInt32.reduceOfNat,UInt64.reduceOfNat,UInt64.reduceToNat,UInt32.reduceToNat,UInt16.reduceToNat,UInt8.reduceToNat,Int.reduceAdd,Int.reduceSub,Int.reduceMul,Nat.reduceMul,Qp0,Ql0,Qe0,e2,e4,e5,e11,e85,e86,rd_M,rdM_some,mf5,mf2,mf11,c0,c1,c2,c3,c4,c5,c6,c7,kg,wg,hSl]
      rw [show UInt32.ofNat (32 - 26) = 6 from rfl, show UInt32.ofNat (32 - 21) = 11 from rfl, show UInt32.ofNat (32 - 7) = 25 from rfl, show UInt32.ofNat (32 - 30) = 2 from rfl, show UInt32.ofNat (32 - 19) = 13 from rfl, show UInt32.ofNat (32 - 10) = 22 from rfl, Sha.ch_alt, Sha.maj_alt]
      refine Eq.mpr (y_buildA Tryz.underlying127 sz102 zc127 (by simp) (wsm (Sha.rnd ⟨va, vb, vc, vd, ve, vf, vg, vh⟩ kt wt).list) rfl ws_One) ?_
      have HL2 : (wsm (Sha.rnd ⟨va, vb, vc, vd, ve, vf, vg, vh⟩ kt wt).list).length = 8 := rfl
      have H12 := wsm_one (Sha.rnd ⟨va, vb, vc, vd, ve, vf, vg, vh⟩ kt wt).list
      have hrn : Sha.rnd ⟨va, vb, vc, vd, ve, vf, vg, vh⟩ kt wt = Sha.rounds (Sha.sched blk 64) (i + 1) st := by rw [hs, hkt, hwt]; rfl
      generalize Sha.rnd ⟨va, vb, vc, vd, ve, vf, vg, vh⟩ kt wt = s' at *
      have hsp : S.take 0 ++ wsm s'.list ++ S.drop 8 = wsm s'.list := by rw [List.drop_of_length_le (by omega)]; simp
      simp -dsimp -implicitDefEqProofs (disch := first | omega | assumption | (simp only [Option.isSome_some,Qt0]; done) | (simp only [UInt64.reduceToNat,UInt32.reduceToNat,UInt8.reduceToNat,List.length_cons,List.length_nil,List.length_append,Int.toNat_natCast] <;> omega)) only [Nat.reduceLT,Nat.reduceLeDiff,Nat.reduceEqDiff,↓reduceIte,Int.reduceLT,Int.reduceLE,Int.reduceToNat,Int.reduceEq,Int.reduceNe,Nat.reduceAdd,UInt8.reduceOfNat,UInt16.reduceOfNat,UInt32.reduceOfNat,UInt64.reduceOfNat,UInt64.reduceToNat,UInt32.reduceToNat,UInt16.reduceToNat,UInt8.reduceToNat,Int.reduceAdd,Int.reduceSub,Int.reduceMul,Nat.reduceMul,Qp0,Ql0,Qe0,e2,e4,e5,e11,e85,e86,rd_M,rdM_some,mf5,mf2,mf11,hSl,HL2,hsp,mfn]
      exact ⟨_, _, by omega, PH.Le.refl _, i + 1, s', by omega, rfl, hrn, trivial, trivial, trivial, trivial, trivial, by simp, rfl⟩
    · obtain rfl : i = 64 := by omega
      obtain ⟨HG, hHG⟩ : ∃ HG : List Value → PH, ∀ S, HG S = (HF (wsm s.list)).new b2 ⟨S, 8⟩ := ⟨_, fun _ => rfl⟩
      have mg2 : ∀ S, (HG S).m b2 = some ⟨S, 8⟩ := fun S => by rw [hHG, PH.new_m, if_pos rfl]
      have mg11 : ∀ S, (HG S).m b11 = some ⟨wsm s.list, 8⟩ := fun S => by rw [hHG, PH.new_m, if_neg (by omega), mf11]
      have mg4 : ∀ S, (HG S).m b4 = some ⟨List.replicate 8 (u32 0), 8⟩ := fun S => by rw [hHG, PH.new_m, if_neg (by omega), hHF, PH.new_m, if_neg (by omega), hHH, PH.new_m, if_neg (by omega), PH.new_m, if_pos rfl]
      have mgn : ∀ S S', (HG S).new b2 ⟨S', 8⟩ = HG S' := fun S S' => by rw [hHG, hHG, PH.new_new]
      have hG0 : HF (wsm s.list) = HG (wsm st.list) := by rw [hHG, PH.new_same (mf2 _)]
      rw [hG0]
      simp -dsimp -implicitDefEqProofs (disch := first | omega | assumption | (simp only [Option.isSome_some,Qt0]; done) | (simp only [UInt64.reduceToNat,UInt32.reduceToNat,UInt8.reduceToNat,List.length_cons,List.length_nil,List.length_append,Int.toNat_natCast] <;> omega)) only [Nat.reduceLT,Nat.reduceLeDiff,Nat.reduceEqDiff,↓reduceIte,Int.reduceLT,Int.reduceLE,Int.reduceToNat,Int.reduceEq,Int.reduceNe,Nat.reduceAdd,UInt8.reduceOfNat,UInt16.reduceOfNat,UInt32.reduceOfNat,UInt64.reduceOfNat,UInt64.reduceToNat,UInt32.reduceToNat,UInt16.reduceToNat,UInt8.reduceToNat,Int.reduceAdd,Int.reduceSub,Int.reduceMul,Nat.reduceMul,Qp0,Ql0,Qe0,e2,e4,e5,e11,e85,e86]
      refine PW_loop (fun n f h' => ∃ k : Nat, k ≤ 8 ∧ n = 8 - k ∧ f 2 = some (.pointer (some ⟨b2, 0, none⟩)) ∧ f 4 = some (.pointer (some ⟨b4, 0, none⟩)) ∧ f 11 = some (.pointer (some ⟨b11, 0, none⟩)) ∧ f 163 = some (.int .i64 k) ∧ h' = HG (wsm (addL st s k))) (by kernel_rfl) 8 ⟨0, by omega, by omega, ?_, ?_, ?_, ?_, ?_⟩ ?_
      · simp -dsimp -implicitDefEqProofs (disch := first | omega | assumption | (simp only [Option.isSome_some,Qt0]; done) | (simp only [UInt64.reduceToNat,UInt32.reduceToNat,UInt8.reduceToNat,List.length_cons,List.length_nil,List.length_append,Int.toNat_natCast] <;> omega)) only [Nat.reduceLT,Nat.reduceLeDiff,Nat.reduceEqDiff,↓reduceIte,Int.reduceLT,Int.reduceLE,Int.reduceToNat,Int.reduceEq,Int.reduceNe,Nat.reduceAdd,UInt8.reduceOfNat,UInt16.reduceOfNat,UInt32.reduceOfNat,UInt64.reduceOfNat,UInt64.reduceToNat,UInt32.reduceToNat,UInt16.reduceToNat,UInt8.reduceToNat,Int.reduceAdd,Int.reduceSub,Int.reduceMul,Nat.reduceMul,Qp0,Ql0,Qe0,e2]
      · simp -dsimp -implicitDefEqProofs (disch := first | omega | assumption | (simp only [Option.isSome_some,Qt0]; done) | (simp only [UInt64.reduceToNat,UInt32.reduceToNat,UInt8.reduceToNat,List.length_cons,List.length_nil,List.length_append,Int.toNat_natCast] <;> omega)) only [Nat.reduceLT,Nat.reduceLeDiff,Nat.reduceEqDiff,↓reduceIte,Int.reduceLT,Int.reduceLE,Int.reduceToNat,Int.reduceEq,Int.reduceNe,Nat.reduceAdd,UInt8.reduceOfNat,UInt16.reduceOfNat,UInt32.reduceOfNat,UInt64.reduceOfNat,UInt64.reduceToNat,UInt32.reduceToNat,UInt16.reduceToNat,UInt8.reduceToNat,Int.reduceAdd,Int.reduceSub,Int.reduceMul,Nat.reduceMul,Qp0,Ql0,Qe0,e4]
      · simp -dsimp -implicitDefEqProofs (disch := first | omega | assumption | (simp only [Option.isSome_some,Qt0]; done) | (simp only [UInt64.reduceToNat,UInt32.reduceToNat,UInt8.reduceToNat,List.length_cons,List.length_nil,List.length_append,Int.toNat_natCast] <;> omega)) only [Nat.reduceLT,Nat.reduceLeDiff,Nat.reduceEqDiff,↓reduceIte,Int.reduceLT,Int.reduceLE,Int.reduceToNat,Int.reduceEq,Int.reduceNe,Nat.reduceAdd,UInt8.reduceOfNat,UInt16.reduceOfNat,UInt32.reduceOfNat,UInt64.reduceOfNat,UInt64.reduceToNat,UInt32.reduceToNat,UInt16.reduceToNat,UInt8.reduceToNat,Int.reduceAdd,Int.reduceSub,Int.reduceMul,Nat.reduceMul,Qp0,Ql0,Qe0,e11]
      · simp -dsimp -implicitDefEqProofs (disch := first | omega | assumption | (simp only [Option.isSome_some,Qt0]; done) | (simp only [UInt64.reduceToNat,UInt32.reduceToNat,UInt8.reduceToNat,List.length_cons,List.length_nil,List.length_append,Int.toNat_natCast] <;> omega)) only [Nat.reduceLT,Nat.reduceLeDiff,Nat.reduceEqDiff,↓reduceIte,Int.reduceLT,Int.reduceLE,Int.reduceToNat,Int.reduceEq,Int.reduceNe,Nat.reduceAdd,UInt8.reduceOfNat,UInt16.reduceOfNat,UInt32.reduceOfNat,UInt64.reduceOfNat,UInt64.reduceToNat,UInt32.reduceToNat,UInt16.reduceToNat,UInt8.reduceToNat,Int.reduceAdd,Int.reduceSub,Int.reduceMul,Nat.reduceMul,Qp0,Ql0,Qe0]
        try rfl
      · rw [addL_zero]
      rintro n f3 h3 ⟨k, hk, rfl, q2, q4, q11, q163, rfl⟩
      by_cases hk8 : k < 8
      · obtain ⟨x, y, hx, hy, hset⟩ := addL_get st s k hk8
        have hl8 := addL_length st s k hk
        have hx' : (wsm (addL st s k))[k]? = some (u32 x) := by simp [wsm, hx]
        have hy' : (wsm s.list)[k]? = some (u32 y) := by simp [wsm, hy]
        have hset' : (wsm (addL st s k)).set k (u32 (x + y)) = wsm (addL st s (k + 1)) := by rw [← hset]; simp [wsm]
        have hl8' : (wsm (addL st s k)).length = 8 := by simp [wsm, hl8]
        generalize wsm (addL st s k) = S at *
        simp -dsimp -implicitDefEqProofs (disch := first | omega | assumption | (simp only [Option.isSome_some,Qt0]; done) | (simp only [UInt64.reduceToNat,UInt32.reduceToNat,UInt8.reduceToNat,List.length_cons,List.length_nil,List.length_append,Int.toNat_natCast] <;> omega)) only [Nat.reduceLT,Nat.reduceLeDiff,Nat.reduceEqDiff,↓reduceIte,Int.reduceLT,Int.reduceLE,Int.reduceToNat,Int.reduceEq,Int.reduceNe,Nat.reduceAdd,UInt8.reduceOfNat,UInt16.reduceOfNat,UInt32.reduceOfNat,UInt64.reduceOfNat,UInt64.reduceToNat,UInt32.reduceToNat,UInt16.reduceToNat,UInt8.reduceToNat,Int.reduceAdd,Int.reduceSub,Int.reduceMul,Nat.reduceMul,Qp0,Ql0,Qe0,q2,q4,q11,q163]
        refine PW_tail1 8 (by kernel_rfl) (by kernel_rfl) (by kernel_rfl) (by kernel_rfl) ?_
        simp -dsimp -implicitDefEqProofs (disch := first | omega | assumption | (simp only [Option.isSome_some,Qt0]; done) | (simp only [UInt64.reduceToNat,UInt32.reduceToNat,UInt8.reduceToNat,List.length_cons,List.length_nil,List.length_append,Int.toNat_natCast] <;> omega)) only [Nat.reduceLT,Nat.reduceLeDiff,Nat.reduceEqDiff,↓reduceIte,Int.reduceLT,Int.reduceLE,Int.reduceToNat,Int.reduceEq,Int.reduceNe,Nat.reduceAdd,UInt8.reduceOfNat,UInt16.reduceOfNat,UInt32.reduceOfNat,UInt64.reduceOfNat,UInt64.reduceToNat,UInt32.reduceToNat,UInt16.reduceToNat,UInt8.reduceToNat,Int.reduceAdd,Int.reduceSub,Int.reduceMul,Nat.reduceMul,Qp0,Ql0,Qe0,q2,q4,q11,q163,rd_M,rdM_some,mg2,mg11,hx',hy',hl8',hset',mgn]
        exact ⟨_, _, by omega, PH.Le.refl _, k + 1, by omega, rfl, trivial, trivial, trivial, by simp, rfl⟩
      · obtain rfl : k = 8 := by omega
        have hcomp : wsm (addL st s 8) = wsm (Sha.comp st blk).list := by rw [addL_all, hs]; rfl
        rw [hcomp]
        have HLc : (wsm (Sha.comp st blk).list).length = 8 := rfl
        have H1c := wsm_one (Sha.comp st blk).list
        generalize wsm (Sha.comp st blk).list = S at *
        have r2c : rdN w0 (HG S) ⟨b2, 0, none⟩ 8 = some S := rdN_known (mg2 S) HLc
        have hspc : (List.replicate 8 (u32 0)).take 0 ++ S ++ (List.replicate 8 (u32 0)).drop 8 = S := by simp
        have r4c : rdN w0 ((HG S).new b4 ⟨S, 8⟩) ⟨b4, 0, none⟩ 8 = some S := rdN_known (k := ⟨S, 8⟩) (by rw [PH.new_m, if_pos rfl]) HLc
        simp -dsimp -implicitDefEqProofs (disch := first | omega | assumption | (simp only [Option.isSome_some,Qt0]; done) | (simp only [UInt64.reduceToNat,UInt32.reduceToNat,UInt8.reduceToNat,List.length_cons,List.length_nil,List.length_append,Int.toNat_natCast] <;> omega)) only [Nat.reduceLT,Nat.reduceLeDiff,Nat.reduceEqDiff,↓reduceIte,Int.reduceLT,Int.reduceLE,Int.reduceToNat,Int.reduceEq,Int.reduceNe,Nat.reduceAdd,UInt8.reduceOfNat,UInt16.reduceOfNat,UInt32.reduceOfNat,UInt64.reduceOfNat,UInt64.reduceToNat,UInt32.reduceToNat,UInt16.reduceToNat,UInt8.reduceToNat,Int.reduceAdd,Int.reduceSub,Int.reduceMul,Nat.reduceMul,Qp0,Ql0,Qe0,q2,q4,q11,q163,r2c,mg4,HLc,H1c,hspc,r4c]
        refine ⟨h, ?_, trivial, rfl⟩
        rw [hHG, hHF, hHH]
        exact ((((((PH.Le.refl h).new _ _ (by omega)).new _ _ (by omega)).new _ _ (by omega)).new _ _ (by omega)).new _ _ (by omega)).new _ _ (by omega)
end Go.Proofs.YtdlaoeepeakpeaaGreat


/- The digest with its folding over a general step, so that the kernel need not lay the step open (Sha.hash's own equation costs the kernel all its memory). No condition. -/
namespace Go.Proofs.YtdlaoeepeakpeaaGreat.Sha
def iter (f : St → List UInt8 → St) : Nat → List UInt8 → St → St
  | 0, _, s => s
  | n + 1, l, s => iter f n (l.drop 64) (f s (l.take 64))
theorem iter_succ (f : St → List UInt8 → St) (n : Nat) (l : List UInt8) (s : St) : iter f (n + 1) l s = iter f n (l.drop 64) (f s (l.take 64)) := rfl
def dig (l : List UInt8) : List UInt8 := bytes (iter comp ((pad l).length / 64) (pad l) H0)
theorem dig_length (l : List UInt8) : (dig l).length = 32 := by
  simp [dig, bytes, St.list, be_length]
end Go.Proofs.YtdlaoeepeakpeaaGreat.Sha


/- Walk of the program's Digest. -/
namespace Go.Proofs.YtdlaoeepeakpeaaGreat
set_option linter.unusedVariables false
set_option linter.unusedSimpArgs false
open Go.RowKit Px
theorem Rs_at {w0 : World} {h : PH} {b o m : Nat} {k : Bk} (hb : h.m b = some k) (hl : o + m ≤ k.xs.length) : Rs w0 h 1 (some ⟨b, o, none⟩) m ((k.xs.drop o).take m) := by
  refine ⟨by simp; omega, fun _ => ⟨_, rfl, ?_⟩⟩
  unfold rdN
  simp only [hb]
  rw [if_pos ⟨trivial, by omega⟩, Nat.mul_one]
theorem be8_drop (n : Nat) : (Sha.be 8 n).drop 4 = Sha.be 4 n := by
  rw [be_cons, be_cons, be_cons, be_cons]; rfl
/-- The bytes of the first i words. -/
def outB (l : List UInt32) (i : Nat) : List UInt8 := (l.take i).flatMap fun x => Sha.be 4 x.toNat
theorem outB_succ (l : List UInt32) (i : Nat) (x : UInt32) (hx : l[i]? = some x) : outB l (i + 1) = outB l i ++ Sha.be 4 x.toNat := by
  obtain ⟨h, e⟩ := List.getElem?_eq_some_iff.1 hx
  unfold outB
  rw [List.take_succ_eq_append_getElem h, List.flatMap_append, e]
  simp
theorem outB_all (s : Sha.St) : outB s.list 8 = Sha.bytes s := rfl
theorem pad_split (l : List UInt8) : Sha.pad l = l ++ [0x80] ++ List.replicate (Sha.zerosOf l.length) 0 ++ Sha.be 8 (8 * l.length) := rfl
theorem len64 (n : Nat) (h : n ≤ 1000000) : (UInt64.ofInt (n : Int) * 8).toNat = 8 * n := by
  rw [UInt64.toNat_mul]
  have : (UInt64.ofInt (n : Int)).toNat = n := by simp [UInt64.ofInt]; omega
  rw [this]
  show n * 8 % 2 ^ 64 = _
  omega
theorem u32_len (n : UInt32) : n.toUInt64.toNat = n.toNat := by simp
set_option maxRecDepth 100000 in
set_option maxHeartbeats 2000000 in
theorem digest_any (l : List UInt8) (hl : l.length ≤ 1000000) (w0 : World) (h : PH) : PCalls Tryz.prog w0 49 [str l] h fun v h' => v = str (Sha.dig l) ∧ h' = h := by
  refine PCalls_body Tryz.func49 (by kernel_rfl) rfl _ Tryz.ntmps49 (by kernel_rfl) (by kernel_rfl) _ Tryz.results49 ?_
  simp -dsimp -implicitDefEqProofs (disch := first | omega | assumption | (simp only [Option.isSome_some,Qt0]; done) | (simp only [UInt64.reduceToNat,UInt32.reduceToNat,UInt8.reduceToNat,List.length_cons,List.length_nil,List.length_append,Int.toNat_natCast] <;> omega)) only [Nat.reduceLT,Nat.reduceLeDiff,Nat.reduceEqDiff,↓reduceIte,Int.reduceLT,Int.reduceLE,Int.reduceToNat,Int.reduceEq,Int.reduceNe,Nat.reduceAdd,UInt8.reduceOfNat,UInt16.reduceOfNat,UInt32.reduceOfNat,UInt64.reduceOfNat,UInt64.reduceToNat,UInt32.reduceToNat,UInt16.reduceToNat,UInt8.reduceToNat,Int.reduceAdd,Int.reduceSub,Int.reduceMul,Nat.reduceMul,Qp0,Ql0,Qe0]
  refine Does_bytes Tryz.underlying9 Tryz.underlying74 Tryz.underlying5 (by unfold maxLen; omega) (fun v h1 how hne => ?_)
  simp -dsimp -implicitDefEqProofs (disch := first | omega | assumption | (simp only [Option.isSome_some,Qt0]; done) | (simp only [UInt64.reduceToNat,UInt32.reduceToNat,UInt8.reduceToNat,List.length_cons,List.length_nil,List.length_append,Int.toNat_natCast] <;> omega)) only [Nat.reduceLT,Nat.reduceLeDiff,Nat.reduceEqDiff,↓reduceIte,Int.reduceLT,Int.reduceLE,Int.reduceToNat,Int.reduceEq,Int.reduceNe,Nat.reduceAdd,UInt8.reduceOfNat,UInt16.reduceOfNat,UInt32.reduceOfNat,UInt64.reduceOfNat,UInt64.reduceToNat,UInt32.reduceToNat,UInt16.reduceToNat,UInt8.reduceToNat,Int.reduceAdd,Int.reduceSub,Int.reduceMul,Nat.reduceMul,Qp0,Ql0,Qe0]
  refine Does_one (v := u8 128) el_u8m rfl (by omega) (fun gb hgb => ?_)
  simp -dsimp -implicitDefEqProofs (disch := first | omega | assumption | (simp only [Option.isSome_some,Qt0]; done) | (simp only [UInt64.reduceToNat,UInt32.reduceToNat,UInt8.reduceToNat,List.length_cons,List.length_nil,List.length_append,Int.toNat_natCast] <;> omega)) only [Nat.reduceLT,Nat.reduceLeDiff,Nat.reduceEqDiff,↓reduceIte,Int.reduceLT,Int.reduceLE,Int.reduceToNat,Int.reduceEq,Int.reduceNe,Nat.reduceAdd,UInt8.reduceOfNat,UInt16.reduceOfNat,UInt32.reduceOfNat,UInt64.reduceOfNat,UInt64.reduceToNat,UInt32.reduceToNat,UInt16.reduceToNat,UInt8.reduceToNat,Int.reduceAdd,Int.reduceSub,Int.reduceMul,Nat.reduceMul,Qp0,Ql0,Qe0]
  refine Does_app el_u8m (how.more ((PH.Le.refl _).new _ _ hgb)).own (Rs.blk (k := ⟨[u8 128], 1⟩) (by rw [PH.new_m, if_pos rfl]; rfl) rfl) (bs_one [128]) (by unfold maxLen; omega) (by omega) (fun v1 h2 ho hst => ?_)
  have how1 := (how.more ((PH.Le.refl _).new _ _ hgb)).stays hst ho
  clear ho hst hgb how hne
  simp -dsimp -implicitDefEqProofs (disch := first | omega | assumption | (simp only [Option.isSome_some,Qt0]; done) | (simp only [UInt64.reduceToNat,UInt32.reduceToNat,UInt8.reduceToNat,List.length_cons,List.length_nil,List.length_append,Int.toNat_natCast] <;> omega)) only [Nat.reduceLT,Nat.reduceLeDiff,Nat.reduceEqDiff,↓reduceIte,Int.reduceLT,Int.reduceLE,Int.reduceToNat,Int.reduceEq,Int.reduceNe,Nat.reduceAdd,UInt8.reduceOfNat,UInt16.reduceOfNat,UInt32.reduceOfNat,UInt64.reduceOfNat,UInt64.reduceToNat,UInt32.reduceToNat,UInt16.reduceToNat,UInt8.reduceToNat,Int.reduceAdd,Int.reduceSub,Int.reduceMul,Nat.reduceMul,Qp0,Ql0,Qe0]
  have hz : Sha.zerosOf l.length = (119 - l.length % 64) % 64 := rfl
  refine PW_loop (fun n f h' => ∃ (j : Nat) (v : Value), j + n = Sha.zerosOf l.length ∧ f 0 = some (str l) ∧ f 3 = some v ∧ OwnS h h' 1 v (l.length + 1 + j) (bs (l ++ [128] ++ List.replicate j 0))) (by kernel_rfl) (Sha.zerosOf l.length) ⟨0, v1, by omega, ?_, ?_, ?_⟩ ?_
  · simp -dsimp -implicitDefEqProofs (disch := first | omega | assumption | (simp only [Option.isSome_some,Qt0]; done) | (simp only [UInt64.reduceToNat,UInt32.reduceToNat,UInt8.reduceToNat,List.length_cons,List.length_nil,List.length_append,Int.toNat_natCast] <;> omega)) only [Nat.reduceLT,Nat.reduceLeDiff,Nat.reduceEqDiff,↓reduceIte,Int.reduceLT,Int.reduceLE,Int.reduceToNat,Int.reduceEq,Int.reduceNe,Nat.reduceAdd,UInt8.reduceOfNat,UInt16.reduceOfNat,UInt32.reduceOfNat,UInt64.reduceOfNat,UInt64.reduceToNat,UInt32.reduceToNat,UInt16.reduceToNat,UInt8.reduceToNat,Int.reduceAdd,Int.reduceSub,Int.reduceMul,Nat.reduceMul,Qp0,Ql0,Qe0]
  · simp -dsimp -implicitDefEqProofs (disch := first | omega | assumption | (simp only [Option.isSome_some,Qt0]; done) | (simp only [UInt64.reduceToNat,UInt32.reduceToNat,UInt8.reduceToNat,List.length_cons,List.length_nil,List.length_append,Int.toNat_natCast] <;> omega)) only [Nat.reduceLT,Nat.reduceLeDiff,Nat.reduceEqDiff,↓reduceIte,Int.reduceLT,Int.reduceLE,Int.reduceToNat,Int.reduceEq,Int.reduceNe,Nat.reduceAdd,UInt8.reduceOfNat,UInt16.reduceOfNat,UInt32.reduceOfNat,UInt64.reduceOfNat,UInt64.reduceToNat,UInt32.reduceToNat,UInt16.reduceToNat,UInt8.reduceToNat,Int.reduceAdd,Int.reduceSub,Int.reduceMul,Nat.reduceMul,Qp0,Ql0,Qe0]
  · have e : bs (l ++ [128] ++ List.replicate 0 0) = bs l ++ [u8 128] := by simp [bs]
    rw [e]; exact how1
  clear how1
  rintro n f h3 ⟨j, v, hj, f0, f3, how⟩
  by_cases hlt : 0 < n
  · have hne : ¬ (((l.length : Int) + 1 + (j : Int)) % 64 = 56) := by omega
    obtain ⟨A, c, rfl, hc⟩ := how.own.len
    simp -dsimp -implicitDefEqProofs (disch := first | omega | assumption | (simp only [Option.isSome_some,Qt0]; done) | (simp only [UInt64.reduceToNat,UInt32.reduceToNat,UInt8.reduceToNat,List.length_cons,List.length_nil,List.length_append,Int.toNat_natCast] <;> omega)) only [Nat.reduceLT,Nat.reduceLeDiff,Nat.reduceEqDiff,↓reduceIte,Int.reduceLT,Int.reduceLE,Int.reduceToNat,Int.reduceEq,Int.reduceNe,Nat.reduceAdd,UInt8.reduceOfNat,UInt16.reduceOfNat,UInt32.reduceOfNat,UInt64.reduceOfNat,UInt64.reduceToNat,UInt32.reduceToNat,UInt16.reduceToNat,UInt8.reduceToNat,Int.reduceAdd,Int.reduceSub,Int.reduceMul,Nat.reduceMul,Qp0,Ql0,Qe0,f0,f3,hne]
    refine Does_one (v := u8 0) el_u8m rfl (by omega) (fun gb hgb => ?_)
    simp -dsimp -implicitDefEqProofs (disch := first | omega | assumption | (simp only [Option.isSome_some,Qt0]; done) | (simp only [UInt64.reduceToNat,UInt32.reduceToNat,UInt8.reduceToNat,List.length_cons,List.length_nil,List.length_append,Int.toNat_natCast] <;> omega)) only [Nat.reduceLT,Nat.reduceLeDiff,Nat.reduceEqDiff,↓reduceIte,Int.reduceLT,Int.reduceLE,Int.reduceToNat,Int.reduceEq,Int.reduceNe,Nat.reduceAdd,UInt8.reduceOfNat,UInt16.reduceOfNat,UInt32.reduceOfNat,UInt64.reduceOfNat,UInt64.reduceToNat,UInt32.reduceToNat,UInt16.reduceToNat,UInt8.reduceToNat,Int.reduceAdd,Int.reduceSub,Int.reduceMul,Nat.reduceMul,Qp0,Ql0,Qe0,f0,f3]
    refine Does_app el_u8m (how.more ((PH.Le.refl _).new _ _ hgb)).own (Rs.blk (k := ⟨[u8 0], 1⟩) (by rw [PH.new_m, if_pos rfl]; rfl) rfl) (bs_one [0]) (by unfold maxLen; omega) (by omega) (fun v4 h4 ho hst => ?_)
    have how4 := (how.more ((PH.Le.refl _).new _ _ hgb)).stays hst ho
    simp -dsimp -implicitDefEqProofs (disch := first | omega | assumption | (simp only [Option.isSome_some,Qt0]; done) | (simp only [UInt64.reduceToNat,UInt32.reduceToNat,UInt8.reduceToNat,List.length_cons,List.length_nil,List.length_append,Int.toNat_natCast] <;> omega)) only [Nat.reduceLT,Nat.reduceLeDiff,Nat.reduceEqDiff,↓reduceIte,Int.reduceLT,Int.reduceLE,Int.reduceToNat,Int.reduceEq,Int.reduceNe,Nat.reduceAdd,UInt8.reduceOfNat,UInt16.reduceOfNat,UInt32.reduceOfNat,UInt64.reduceOfNat,UInt64.reduceToNat,UInt32.reduceToNat,UInt16.reduceToNat,UInt8.reduceToNat,Int.reduceAdd,Int.reduceSub,Int.reduceMul,Nat.reduceMul,Qp0,Ql0,Qe0,f0,f3]
    refine ⟨n - 1, h4, by omega, PH.Le.refl _, j + 1, v4, by omega, by trivial, by trivial, ?_⟩
    have e : bs (l ++ [128] ++ List.replicate (j + 1) 0) = bs (l ++ [128] ++ List.replicate j 0) ++ [u8 0] := by
      rw [List.replicate_succ', ← List.append_assoc, bs_append]; rfl
    rw [e]; exact how4
  obtain rfl : n = 0 := by omega
  have heq : ((l.length : Int) + 1 + (j : Int)) % 64 = 56 := by omega
  obtain rfl : j = Sha.zerosOf l.length := by omega
  obtain ⟨A, c, rfl, hc⟩ := how.own.len
  obtain ⟨x8, hx8⟩ : ∃ x, x = UInt64.ofInt (l.length : Int) * 8 := ⟨_, rfl⟩
  have hx8n : x8.toNat = 8 * l.length := by rw [hx8]; exact len64 _ hl
  have hx8' := hx8.symm
  simp -dsimp -implicitDefEqProofs (disch := first | omega | assumption | (simp only [Option.isSome_some,Qt0]; done) | (simp only [UInt64.reduceToNat,UInt32.reduceToNat,UInt8.reduceToNat,List.length_cons,List.length_nil,List.length_append,Int.toNat_natCast] <;> omega)) only [Nat.reduceLT,Nat.reduceLeDiff,Nat.reduceEqDiff,↓reduceIte,Int.reduceLT,Int.reduceLE,Int.reduceToNat,Int.reduceEq,Int.reduceNe,Nat.reduceAdd,UInt8.reduceOfNat,UInt16.reduceOfNat,UInt32.reduceOfNat,UInt64.reduceOfNat,UInt64.reduceToNat,UInt32.reduceToNat,UInt16.reduceToNat,UInt8.reduceToNat,Int.reduceAdd,Int.reduceSub,Int.reduceMul,Nat.reduceMul,Qp0,Ql0,Qe0,f0,f3,heq,hx8']
  refine (eight_any x8 w0 _).mono ?_
  rintro v5 h5 ⟨b5, rfl, hb5, rfl⟩
  simp -dsimp -implicitDefEqProofs (disch := first | omega | assumption | (simp only [Option.isSome_some,Qt0]; done) | (simp only [UInt64.reduceToNat,UInt32.reduceToNat,UInt8.reduceToNat,List.length_cons,List.length_nil,List.length_append,Int.toNat_natCast] <;> omega)) only [Nat.reduceLT,Nat.reduceLeDiff,Nat.reduceEqDiff,↓reduceIte,Int.reduceLT,Int.reduceLE,Int.reduceToNat,Int.reduceEq,Int.reduceNe,Nat.reduceAdd,UInt8.reduceOfNat,UInt16.reduceOfNat,UInt32.reduceOfNat,UInt64.reduceOfNat,UInt64.reduceToNat,UInt32.reduceToNat,UInt16.reduceToNat,UInt8.reduceToNat,Int.reduceAdd,Int.reduceSub,Int.reduceMul,Nat.reduceMul,Qp0,Ql0,Qe0,f0,f3]
  have hpl : (Sha.pad l).length = l.length + 1 + Sha.zerosOf l.length + 8 := by simp [pad_split, Sha.be_length]; omega
  refine Does_app el_u8m (how.more ((PH.Le.refl _).new _ _ hb5)).own (Rs.blk (k := ⟨bs (Sha.be 8 x8.toNat), 8⟩) (by rw [PH.new_m, if_pos rfl]) (by simp only [bs, List.length_map, Sha.be_length])) (bs_one _) (by unfold maxLen; omega) (by omega) (fun v6 h6 ho hst => ?_)
  have how6 := (how.more ((PH.Le.refl _).new _ _ hb5)).stays hst ho
  clear ho hst hb5 how
  have hP : bs (l ++ [128] ++ List.replicate (Sha.zerosOf l.length) 0) ++ bs (Sha.be 8 x8.toNat) = bs (Sha.pad l) := by
    rw [← bs_append, hx8n]; rfl
  rw [hP, ← hpl] at how6
  clear hP
  have hp64 := Sha.pad_length l
  have hdig : Sha.dig l = Sha.bytes (Sha.iter Sha.comp ((Sha.pad l).length / 64) (Sha.pad l) Sha.H0) := rfl
  have hplt : (Sha.pad l).length ≤ 1000200 := by omega
  rw [hdig]
  have hpos : 0 < (Sha.pad l).length := by omega
  clear hdig hpl
  generalize Sha.pad l = P at *
  obtain ⟨b, c, rfl, hc, hbm⟩ := how6.own.pos hpos
  obtain ⟨T, hT⟩ : ∃ T, T = Sha.iter Sha.comp (P.length / 64) P Sha.H0 := ⟨_, rfl⟩
  rw [← hT]
  simp -dsimp -implicitDefEqProofs (disch := first | omega | assumption | (simp only [Option.isSome_some,Qt0]; done) | (simp only [UInt64.reduceToNat,UInt32.reduceToNat,UInt8.reduceToNat,List.length_cons,List.length_nil,List.length_append,Int.toNat_natCast] <;> omega)) only [Nat.reduceLT,Nat.reduceLeDiff,Nat.reduceEqDiff,↓reduceIte,Int.reduceLT,Int.reduceLE,Int.reduceToNat,Int.reduceEq,Int.reduceNe,Nat.reduceAdd,UInt8.reduceOfNat,UInt16.reduceOfNat,UInt32.reduceOfNat,UInt64.reduceOfNat,UInt64.reduceToNat,UInt32.reduceToNat,UInt16.reduceToNat,UInt8.reduceToNat,Int.reduceAdd,Int.reduceSub,Int.reduceMul,Nat.reduceMul,Qp0,Ql0,Qe0,f0,f3]
  refine (start_any w0 _).mono ?_
  rintro v7 h7 ⟨rfl, rfl⟩
  simp -dsimp -implicitDefEqProofs (disch := first | omega | assumption | (simp only [Option.isSome_some,Qt0]; done) | (simp only [UInt64.reduceToNat,UInt32.reduceToNat,UInt8.reduceToNat,List.length_cons,List.length_nil,List.length_append,Int.toNat_natCast] <;> omega)) only [Nat.reduceLT,Nat.reduceLeDiff,Nat.reduceEqDiff,↓reduceIte,Int.reduceLT,Int.reduceLE,Int.reduceToNat,Int.reduceEq,Int.reduceNe,Nat.reduceAdd,UInt8.reduceOfNat,UInt16.reduceOfNat,UInt32.reduceOfNat,UInt64.reduceOfNat,UInt64.reduceToNat,UInt32.reduceToNat,UInt16.reduceToNat,UInt8.reduceToNat,Int.reduceAdd,Int.reduceSub,Int.reduceMul,Nat.reduceMul,Qp0,Ql0,Qe0,f0,f3]
  refine fun b4 hb4 => ?_
  have HL : (wsm Sha.H0.list).length = 8 := rfl
  have H1 := wsm_one Sha.H0.list
  have hlt4 := h7.lt _ _ hbm
  obtain ⟨HW, hHW⟩ : ∃ HW : List Value → PH, ∀ S, HW S = h7.new b4 ⟨S, 8⟩ := ⟨_, fun _ => rfl⟩
  have m4 : ∀ S, (HW S).m b4 = some ⟨S, 8⟩ := fun S => by rw [hHW, PH.new_m, if_pos rfl]
  have mb : ∀ S, (HW S).m b = some ⟨bs P, c * 1⟩ := fun S => by rw [hHW, PH.new_m, if_neg (by omega), hbm]
  have mn : ∀ S S', (HW S).new b4 ⟨S', 8⟩ = HW S' := fun S S' => by rw [hHW, hHW, PH.new_new]
  have hle : ∀ S, PH.Le h (HW S) := fun S => by rw [hHW]; exact how6.le.new _ _ (Nat.le_trans how6.le.top hb4)
  have hsp8 : ∀ cs : List Value, cs.length = 8 → ∀ xs : List Value, xs.length = 8 → xs.take 0 ++ cs ++ xs.drop 8 = cs := fun cs _ xs hx => by rw [List.drop_of_length_le (by omega)]; simp
  have hr8 : ∀ S : List Value, S.length = 8 → rdN w0 (HW S) ⟨b4, 0, none⟩ 8 = some S := fun S hS => rdN_known (m4 S) hS
  simp -dsimp -implicitDefEqProofs (disch := first | omega | assumption | (simp only [Option.isSome_some,Qt0]; done) | (simp only [UInt64.reduceToNat,UInt32.reduceToNat,UInt8.reduceToNat,List.length_cons,List.length_nil,List.length_append,Int.toNat_natCast] <;> omega)) only [Nat.reduceLT,Nat.reduceLeDiff,Nat.reduceEqDiff,↓reduceIte,Int.reduceLT,Int.reduceLE,Int.reduceToNat,Int.reduceEq,Int.reduceNe,Nat.reduceAdd,UInt8.reduceOfNat,UInt16.reduceOfNat,UInt32.reduceOfNat,UInt64.reduceOfNat,UInt64.reduceToNat,UInt32.reduceToNat,UInt16.reduceToNat,UInt8.reduceToNat,Int.reduceAdd,Int.reduceSub,Int.reduceMul,Nat.reduceMul,Qp0,Ql0,Qe0,f0,f3,HL,H1,PH.new_new]
  refine PW_loop (fun n f h' => ∃ (s : Sha.St) (Q : List UInt8) (o c' : Nat), Q.length = 64 * n ∧ 64 * n ≤ c' ∧ (0 < n → (bs P).drop o = bs Q) ∧ Sha.iter Sha.comp n Q s = T ∧ f 3 = some (.slice (some ⟨b, o, none⟩) (64 * n) c') ∧ f 4 = some (.pointer (some ⟨b4, 0, none⟩)) ∧ h' = HW (wsm s.list)) (by kernel_rfl) (P.length / 64) ⟨Sha.H0, P, 0, c, by omega, by omega, fun _ => rfl, hT.symm, ?_, ?_, ?_⟩ ?_
  · simp -dsimp -implicitDefEqProofs (disch := first | omega | assumption | (simp only [Option.isSome_some,Qt0]; done) | (simp only [UInt64.reduceToNat,UInt32.reduceToNat,UInt8.reduceToNat,List.length_cons,List.length_nil,List.length_append,Int.toNat_natCast] <;> omega)) only [Nat.reduceLT,Nat.reduceLeDiff,Nat.reduceEqDiff,↓reduceIte,Int.reduceLT,Int.reduceLE,Int.reduceToNat,Int.reduceEq,Int.reduceNe,Nat.reduceAdd,UInt8.reduceOfNat,UInt16.reduceOfNat,UInt32.reduceOfNat,UInt64.reduceOfNat,UInt64.reduceToNat,UInt32.reduceToNat,UInt16.reduceToNat,UInt8.reduceToNat,Int.reduceAdd,Int.reduceSub,Int.reduceMul,Nat.reduceMul,Qp0,Ql0,Qe0,f3]
    congr 3
    omega
  · simp -dsimp -implicitDefEqProofs (disch := first | omega | assumption | (simp only [Option.isSome_some,Qt0]; done) | (simp only [UInt64.reduceToNat,UInt32.reduceToNat,UInt8.reduceToNat,List.length_cons,List.length_nil,List.length_append,Int.toNat_natCast] <;> omega)) only [Nat.reduceLT,Nat.reduceLeDiff,Nat.reduceEqDiff,↓reduceIte,Int.reduceLT,Int.reduceLE,Int.reduceToNat,Int.reduceEq,Int.reduceNe,Nat.reduceAdd,UInt8.reduceOfNat,UInt16.reduceOfNat,UInt32.reduceOfNat,UInt64.reduceOfNat,UInt64.reduceToNat,UInt32.reduceToNat,UInt16.reduceToNat,UInt8.reduceToNat,Int.reduceAdd,Int.reduceSub,Int.reduceMul,Nat.reduceMul,Qp0,Ql0,Qe0]
  · rw [hHW, hsp8 _ rfl _ rfl]
  clear f0 f3
  rintro n f h3 ⟨s, Q, o, c', hQ, hc', hPQ, hit, f3, f4, rfl⟩
  rcases n with _ | n
  · have hs : s = T := hit
    subst hs
    have hr := hr8 (wsm s.list) rfl
    have HLs : (wsm s.list).length = 8 := rfl
    simp -dsimp -implicitDefEqProofs (disch := first | omega | assumption | (simp only [Option.isSome_some,Qt0]; done) | (simp only [UInt64.reduceToNat,UInt32.reduceToNat,UInt8.reduceToNat,List.length_cons,List.length_nil,List.length_append,Int.toNat_natCast] <;> omega)) only [Nat.reduceLT,Nat.reduceLeDiff,Nat.reduceEqDiff,↓reduceIte,Int.reduceLT,Int.reduceLE,Int.reduceToNat,Int.reduceEq,Int.reduceNe,Nat.reduceAdd,UInt8.reduceOfNat,UInt16.reduceOfNat,UInt32.reduceOfNat,UInt64.reduceOfNat,UInt64.reduceToNat,UInt32.reduceToNat,UInt16.reduceToNat,UInt8.reduceToNat,Int.reduceAdd,Int.reduceSub,Int.reduceMul,Nat.reduceMul,Qp0,Ql0,Qe0,f3,f4,hr]
    refine PW_loop (fun n f h' => ∃ (i : Nat) (v : Value), i + n = 8 ∧ f 36 = some (.agg (wsm s.list).toArray) ∧ f 37 = some (.int .i64 i) ∧ f 5 = some v ∧ OwnS h h' 1 v (4 * i) (bs (outB s.list i))) (by kernel_rfl) 8 ⟨0, .slice none 0 0, by omega, ?_, ?_, ?_, (OwnS.nil h 1).more (hle _)⟩ ?_
    · simp -dsimp -implicitDefEqProofs (disch := first | omega | assumption | (simp only [Option.isSome_some,Qt0]; done) | (simp only [UInt64.reduceToNat,UInt32.reduceToNat,UInt8.reduceToNat,List.length_cons,List.length_nil,List.length_append,Int.toNat_natCast] <;> omega)) only [Nat.reduceLT,Nat.reduceLeDiff,Nat.reduceEqDiff,↓reduceIte,Int.reduceLT,Int.reduceLE,Int.reduceToNat,Int.reduceEq,Int.reduceNe,Nat.reduceAdd,UInt8.reduceOfNat,UInt16.reduceOfNat,UInt32.reduceOfNat,UInt64.reduceOfNat,UInt64.reduceToNat,UInt32.reduceToNat,UInt16.reduceToNat,UInt8.reduceToNat,Int.reduceAdd,Int.reduceSub,Int.reduceMul,Nat.reduceMul,Qp0,Ql0,Qe0]
    · simp -dsimp -implicitDefEqProofs (disch := first | omega | assumption | (simp only [Option.isSome_some,Qt0]; done) | (simp only [UInt64.reduceToNat,UInt32.reduceToNat,UInt8.reduceToNat,List.length_cons,List.length_nil,List.length_append,Int.toNat_natCast] <;> omega)) only [Nat.reduceLT,Nat.reduceLeDiff,Nat.reduceEqDiff,↓reduceIte,Int.reduceLT,Int.reduceLE,Int.reduceToNat,Int.reduceEq,Int.reduceNe,Nat.reduceAdd,UInt8.reduceOfNat,UInt16.reduceOfNat,UInt32.reduceOfNat,UInt64.reduceOfNat,UInt64.reduceToNat,UInt32.reduceToNat,UInt16.reduceToNat,UInt8.reduceToNat,Int.reduceAdd,Int.reduceSub,Int.reduceMul,Nat.reduceMul,Qp0,Ql0,Qe0]
      try rfl
    · simp -dsimp -implicitDefEqProofs (disch := first | omega | assumption | (simp only [Option.isSome_some,Qt0]; done) | (simp only [UInt64.reduceToNat,UInt32.reduceToNat,UInt8.reduceToNat,List.length_cons,List.length_nil,List.length_append,Int.toNat_natCast] <;> omega)) only [Nat.reduceLT,Nat.reduceLeDiff,Nat.reduceEqDiff,↓reduceIte,Int.reduceLT,Int.reduceLE,Int.reduceToNat,Int.reduceEq,Int.reduceNe,Nat.reduceAdd,UInt8.reduceOfNat,UInt16.reduceOfNat,UInt32.reduceOfNat,UInt64.reduceOfNat,UInt64.reduceToNat,UInt32.reduceToNat,UInt16.reduceToNat,UInt8.reduceToNat,Int.reduceAdd,Int.reduceSub,Int.reduceMul,Nat.reduceMul,Qp0,Ql0,Qe0]
    rintro n f4 h4 ⟨i, v, hin, g36, g37, g5, how⟩
    by_cases hi : i < 8
    · obtain ⟨x, hx⟩ : ∃ x, s.list[i]? = some x := ⟨_, List.getElem?_eq_getElem hi⟩
      have hxg : (wsm s.list).getD i undef = u32 x := by simp [wsm, List.getD, hx]
      have hos := outB_succ s.list i x hx
      simp -dsimp -implicitDefEqProofs (disch := first | omega | assumption | (simp only [Option.isSome_some,Qt0]; done) | (simp only [UInt64.reduceToNat,UInt32.reduceToNat,UInt8.reduceToNat,List.length_cons,List.length_nil,List.length_append,Int.toNat_natCast] <;> omega)) only [Nat.reduceLT,Nat.reduceLeDiff,Nat.reduceEqDiff,↓reduceIte,Int.reduceLT,Int.reduceLE,Int.reduceToNat,Int.reduceEq,Int.reduceNe,Nat.reduceAdd,UInt8.reduceOfNat,UInt16.reduceOfNat,UInt32.reduceOfNat,UInt64.reduceOfNat,UInt64.reduceToNat,UInt32.reduceToNat,UInt16.reduceToNat,UInt8.reduceToNat,Int.reduceAdd,Int.reduceSub,Int.reduceMul,Nat.reduceMul,Qp0,Ql0,Qe0,g36,g37,g5,HLs,hxg]
      refine (eight_any x.toUInt64 w0 _).mono ?_
      rintro v5 h5 ⟨b5, rfl, hb5, rfl⟩
      have hRs : Rs w0 (h4.new b5 ⟨bs (Sha.be 8 x.toUInt64.toNat), 8⟩) 1 (some ⟨b5, 4, none⟩) 4 (bs (Sha.be 4 x.toNat)) := by
        have := Rs_at (w0 := w0) (h := h4.new b5 ⟨bs (Sha.be 8 x.toUInt64.toNat), 8⟩) (b := b5) (o := 4) (m := 4) (k := ⟨bs (Sha.be 8 x.toUInt64.toNat), 8⟩) (by rw [PH.new_m, if_pos rfl]) (by simp [bs, Sha.be_length])
        rw [show ((bs (Sha.be 8 x.toUInt64.toNat)).drop 4).take 4 = bs (Sha.be 4 x.toNat) by
          rw [u32_len, bs, ← List.map_drop, be8_drop, ← List.map_take, List.take_of_length_le (by rw [Sha.be_length]; omega)]; rfl] at this
        exact this
      simp -dsimp -implicitDefEqProofs (disch := first | omega | assumption | (simp only [Option.isSome_some,Qt0]; done) | (simp only [UInt64.reduceToNat,UInt32.reduceToNat,UInt8.reduceToNat,List.length_cons,List.length_nil,List.length_append,Int.toNat_natCast] <;> omega)) only [Nat.reduceLT,Nat.reduceLeDiff,Nat.reduceEqDiff,↓reduceIte,Int.reduceLT,Int.reduceLE,Int.reduceToNat,Int.reduceEq,Int.reduceNe,Nat.reduceAdd,UInt8.reduceOfNat,UInt16.reduceOfNat,UInt32.reduceOfNat,UInt64.reduceOfNat,UInt64.reduceToNat,UInt32.reduceToNat,UInt16.reduceToNat,UInt8.reduceToNat,Int.reduceAdd,Int.reduceSub,Int.reduceMul,Nat.reduceMul,Qp0,Ql0,Qe0,g36,g37,g5,HLs,hxg,cutAt]
      refine Does_app el_u8m (how.more ((PH.Le.refl _).new _ _ hb5)).own hRs (bs_one _) (by unfold maxLen; omega) (by omega) (fun v6 h6 ho hst => ?_)
      have how6 := (how.more ((PH.Le.refl _).new _ _ hb5)).stays hst ho
      simp -dsimp -implicitDefEqProofs (disch := first | omega | assumption | (simp only [Option.isSome_some,Qt0]; done) | (simp only [UInt64.reduceToNat,UInt32.reduceToNat,UInt8.reduceToNat,List.length_cons,List.length_nil,List.length_append,Int.toNat_natCast] <;> omega)) only [Nat.reduceLT,Nat.reduceLeDiff,Nat.reduceEqDiff,↓reduceIte,Int.reduceLT,Int.reduceLE,Int.reduceToNat,Int.reduceEq,Int.reduceNe,Nat.reduceAdd,UInt8.reduceOfNat,UInt16.reduceOfNat,UInt32.reduceOfNat,UInt64.reduceOfNat,UInt64.reduceToNat,UInt32.reduceToNat,UInt16.reduceToNat,UInt8.reduceToNat,Int.reduceAdd,Int.reduceSub,Int.reduceMul,Nat.reduceMul,Qp0,Ql0,Qe0,g36,g37,g5]
      refine ⟨n - 1, h6, by omega, PH.Le.refl _, i + 1, v6, by omega, by trivial, by simp, by trivial, ?_⟩
      rw [hos, bs_append, show 4 * (i + 1) = 4 * i + 4 by omega]
      exact how6
    · obtain rfl : i = 8 := by omega
      obtain ⟨A, c2, rfl, hc2⟩ := how.own.len
      simp -dsimp -implicitDefEqProofs (disch := first | omega | assumption | (simp only [Option.isSome_some,Qt0]; done) | (simp only [UInt64.reduceToNat,UInt32.reduceToNat,UInt8.reduceToNat,List.length_cons,List.length_nil,List.length_append,Int.toNat_natCast] <;> omega)) only [Nat.reduceLT,Nat.reduceLeDiff,Nat.reduceEqDiff,↓reduceIte,Int.reduceLT,Int.reduceLE,Int.reduceToNat,Int.reduceEq,Int.reduceNe,Nat.reduceAdd,UInt8.reduceOfNat,UInt16.reduceOfNat,UInt32.reduceOfNat,UInt64.reduceOfNat,UInt64.reduceToNat,UInt32.reduceToNat,UInt16.reduceToNat,UInt8.reduceToNat,Int.reduceAdd,Int.reduceSub,Int.reduceMul,Nat.reduceMul,Qp0,Ql0,Qe0,g36,g37,g5]
      refine vtext_own Tryz.underlying74 Tryz.underlying5 Tryz.underlying9 (Rs.own how.own) ?_ ?_
      · rintro rfl; rcases how.own.2 with ⟨_, h1⟩ | ⟨b, c', h1, _⟩
        · exact h1
        · cases h1
      · simp -dsimp -implicitDefEqProofs (disch := first | omega | assumption | (simp only [Option.isSome_some,Qt0]; done) | (simp only [UInt64.reduceToNat,UInt32.reduceToNat,UInt8.reduceToNat,List.length_cons,List.length_nil,List.length_append,Int.toNat_natCast] <;> omega)) only [Nat.reduceLT,Nat.reduceLeDiff,Nat.reduceEqDiff,↓reduceIte,Int.reduceLT,Int.reduceLE,Int.reduceToNat,Int.reduceEq,Int.reduceNe,Nat.reduceAdd,UInt8.reduceOfNat,UInt16.reduceOfNat,UInt32.reduceOfNat,UInt64.reduceOfNat,UInt64.reduceToNat,UInt32.reduceToNat,UInt16.reduceToNat,UInt8.reduceToNat,Int.reduceAdd,Int.reduceSub,Int.reduceMul,Nat.reduceMul,Qp0,Ql0,Qe0]
        exact ⟨_, how.le, by rw [outB_all], rfl⟩
  · obtain ⟨lo, hlo⟩ : ∃ lo, lo = 64 * (n + 1) := ⟨_, rfl⟩
    have hX : ((bs P).drop o).take 64 = bs (Q.take 64) := by rw [hPQ (by omega)]; simp [bs, List.map_take]
    have hr := hr8 (wsm s.list) rfl
    have hF := Lib.hid (fold_any s (Q.take 64) b o c' (bs P) (c * 1) w0 (HW (wsm s.list)) (by simp; omega) (by omega) (mb _) hX)
    rw [← hlo] at f3 hc'
    have HLc : ∀ t : Sha.St, (wsm t.list).length = 8 := fun t => rfl
    have H1c : ∀ t : Sha.St, allOne (wsm t.list) := fun t => wsm_one t.list
    simp -dsimp -implicitDefEqProofs (disch := first | omega | assumption | (simp only [Option.isSome_some,Qt0]; done) | (simp only [UInt64.reduceToNat,UInt32.reduceToNat,UInt8.reduceToNat,List.length_cons,List.length_nil,List.length_append,Int.toNat_natCast] <;> omega)) only [Nat.reduceLT,Nat.reduceLeDiff,Nat.reduceEqDiff,↓reduceIte,Int.reduceLT,Int.reduceLE,Int.reduceToNat,Int.reduceEq,Int.reduceNe,Nat.reduceAdd,UInt8.reduceOfNat,UInt16.reduceOfNat,UInt32.reduceOfNat,UInt64.reduceOfNat,UInt64.reduceToNat,UInt32.reduceToNat,UInt16.reduceToNat,UInt8.reduceToNat,Int.reduceAdd,Int.reduceSub,Int.reduceMul,Nat.reduceMul,Qp0,Ql0,Qe0,f3,f4]
    refine PW_tail1 3 (by kernel_rfl) (by kernel_rfl) (by kernel_rfl) (by kernel_rfl) ?_
    simp -dsimp -implicitDefEqProofs (disch := first | omega | assumption | (simp only [Option.isSome_some,Qt0]; done) | (simp only [UInt64.reduceToNat,UInt32.reduceToNat,UInt8.reduceToNat,List.length_cons,List.length_nil,List.length_append,Int.toNat_natCast] <;> omega)) only [Nat.reduceLT,Nat.reduceLeDiff,Nat.reduceEqDiff,↓reduceIte,Int.reduceLT,Int.reduceLE,Int.reduceToNat,Int.reduceEq,Int.reduceNe,Nat.reduceAdd,UInt8.reduceOfNat,UInt16.reduceOfNat,UInt32.reduceOfNat,UInt64.reduceOfNat,UInt64.reduceToNat,UInt32.reduceToNat,UInt16.reduceToNat,UInt8.reduceToNat,Int.reduceAdd,Int.reduceSub,Int.reduceMul,Nat.reduceMul,Qp0,Ql0,Qe0,f3,f4,hr]
    refine hF.out.mono ?_
    rintro v h1 ⟨rfl, rfl⟩
    generalize hnx : Sha.comp s (Q.take 64) = s' at *
    rw [Sha.iter_succ, hnx] at hit
    have hlom : lo - 64 = 64 * n := by omega
    have HLn : (wsm s'.list).length = 8 := rfl
    have HLo : (wsm s.list).length = 8 := rfl
    have H1n := wsm_one s'.list
    have hsp := hsp8 _ HLn _ HLo
    have hloI : decide ((0 : Int) < (lo : Int)) = true := decide_eq_true (by omega)
    by_cases hc64 : c' = 64
    · simp -dsimp -implicitDefEqProofs (disch := first | omega | assumption | (simp only [Option.isSome_some,Qt0]; done) | (simp only [UInt64.reduceToNat,UInt32.reduceToNat,UInt8.reduceToNat,List.length_cons,List.length_nil,List.length_append,Int.toNat_natCast] <;> omega)) only [Nat.reduceLT,Nat.reduceLeDiff,Nat.reduceEqDiff,↓reduceIte,Int.reduceLT,Int.reduceLE,Int.reduceToNat,Int.reduceEq,Int.reduceNe,Nat.reduceAdd,UInt8.reduceOfNat,UInt16.reduceOfNat,UInt32.reduceOfNat,UInt64.reduceOfNat,UInt64.reduceToNat,UInt32.reduceToNat,UInt16.reduceToNat,UInt8.reduceToNat,Int.reduceAdd,Int.reduceSub,Int.reduceMul,Nat.reduceMul,Qp0,Ql0,Qe0,f3,f4,hr,m4,HLn,H1n,hsp,mn,hloI,HLo,hc64,cutAt]
      refine ⟨n, _, by omega, PH.Le.refl _, s', Q.drop 64, o, c' - 64, by simp; omega, by omega, fun _ => by omega, hit, ?_, ?_, rfl⟩
      · rw [hlom, hc64]
      · trivial
    · have hd := decide_eq_false hc64
      simp -dsimp -implicitDefEqProofs (disch := first | omega | assumption | (simp only [Option.isSome_some,Qt0]; done) | (simp only [UInt64.reduceToNat,UInt32.reduceToNat,UInt8.reduceToNat,List.length_cons,List.length_nil,List.length_append,Int.toNat_natCast] <;> omega)) only [Nat.reduceLT,Nat.reduceLeDiff,Nat.reduceEqDiff,↓reduceIte,Int.reduceLT,Int.reduceLE,Int.reduceToNat,Int.reduceEq,Int.reduceNe,Nat.reduceAdd,UInt8.reduceOfNat,UInt16.reduceOfNat,UInt32.reduceOfNat,UInt64.reduceOfNat,UInt64.reduceToNat,UInt32.reduceToNat,UInt16.reduceToNat,UInt8.reduceToNat,Int.reduceAdd,Int.reduceSub,Int.reduceMul,Nat.reduceMul,Qp0,Ql0,Qe0,f3,f4,hr,m4,HLn,H1n,hsp,mn,hloI,HLo,hd,cutAt]
      refine ⟨n, _, by omega, PH.Le.refl _, s', Q.drop 64, o + 64, c' - 64, by simp; omega, by omega, fun _ => ?_, hit, ?_, ?_, rfl⟩
      · rw [← List.drop_drop, hPQ (by omega)]; simp [bs, List.map_drop]
      · rw [hlom]
      · trivial
end Go.Proofs.YtdlaoeepeakpeaaGreat

