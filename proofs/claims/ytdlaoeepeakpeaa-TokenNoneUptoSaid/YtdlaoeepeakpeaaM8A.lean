/- Parts MnT, MnV, Rg, TxS, TxP, TxB, TxN, TxDe, TxI, joined. No condition. -/
import Derived.Test.YtdlaoeepeakpeaaM7A
import Derived.Test.YtdlaoeepeakpeaaM2A
import Derived.Test.YtdlaoeepeakpeaaM6A
import Derived.Lib.Bytealg
import Derived.Test.YtdlaoeepeakpeaaM3A
/- Walks of the program's and the reference's Tag: the MAC of a text under a key. -/
namespace Go.Proofs.Ytdlaoeepeakpeaa
set_option linter.unusedVariables false
set_option linter.unusedSimpArgs false
open Go.RowKit Px
/-- A key as it is taken: shorter ones as they are, longer ones by their digest; in 64 bytes. -/
def keyOf (key : List UInt8) : List UInt8 := if 64 < key.length then Sha.dig key else key
def padKey (k : List UInt8) : List UInt8 := k ++ List.replicate (64 - k.length) 0
def mixL (k : List UInt8) (c : UInt8) : List UInt8 := (padKey k).map (· ^^^ c)
def tag (key s : List UInt8) : List UInt8 := Sha.dig (mixL (keyOf key) 92 ++ Sha.dig (mixL (keyOf key) 54 ++ s))
theorem keyOf_length (key : List UInt8) : (keyOf key).length ≤ 64 := by
  unfold keyOf; split
  · rw [Sha.dig_length]; omega
  · omega
theorem padKey_length (k : List UInt8) (h : k.length ≤ 64) : (padKey k).length = 64 := by unfold padKey; simp; omega
theorem mixL_length (k : List UInt8) (c : UInt8) (h : k.length ≤ 64) : (mixL k c).length = 64 := by unfold mixL; rw [List.length_map, padKey_length k h]
theorem tag_length (key s : List UInt8) : (tag key s).length = 32 := Sha.dig_length _
/-- The first i cells mixed. -/
def mixI (p : List UInt8) (c : UInt8) (i : Nat) : List UInt8 := (p.take i).map (· ^^^ c) ++ p.drop i
theorem mixI_length (p : List UInt8) (c : UInt8) (i : Nat) : (mixI p c i).length = p.length := by simp [mixI]; omega
theorem mixI_get (p : List UInt8) (c : UInt8) (i : Nat) (h : i < p.length) : (bs (mixI p c i))[i]? = some (u8 (p.getD i 0)) := by
  have e : (mixI p c i)[i]? = some (p.getD i 0) := by
    unfold mixI
    rw [List.getElem?_append_right (by simp; omega)]
    simp [List.getD, List.getElem?_eq_getElem h, Nat.min_eq_left (Nat.le_of_lt h)]
  simp [bs, e]
theorem mixI_set (p : List UInt8) (c : UInt8) (i : Nat) (h : i < p.length) : (bs (mixI p c i)).set i (u8 (p.getD i 0 ^^^ c)) = bs (mixI p c (i + 1)) := by
  have e : mixI p c (i + 1) = (mixI p c i).set i (p.getD i 0 ^^^ c) := by
    have hl : ((p.take i).map (· ^^^ c)).length = i := by rw [List.length_map, List.length_take]; omega
    have e2 : p.drop i = p.getD i 0 :: p.drop (i + 1) := by rw [List.drop_eq_getElem_cons h]; simp [List.getD, List.getElem?_eq_getElem h]
    unfold mixI
    rw [List.set_append_right _ _ (by omega), hl, Nat.sub_self, e2, List.set_cons_zero, List.take_succ_eq_append_getElem h, List.map_append, List.append_assoc]
    simp [List.getD, List.getElem?_eq_getElem h]
  rw [e, bs, bs, List.map_set]
theorem mixI_zero (p : List UInt8) (c : UInt8) : mixI p c 0 = p := by simp [mixI]
theorem mixI_all (k : List UInt8) (c : UInt8) (h : k.length ≤ 64) : mixI (padKey k) c 64 = mixL k c := by
  have := padKey_length k h
  unfold mixI mixL
  rw [List.take_of_length_le (by omega), List.drop_of_length_le (by omega), List.append_nil]
set_option maxRecDepth 100000 in
set_option maxHeartbeats 2000000 in
theorem tag_any (key s : List UInt8) (hk : key.length ≤ 900000) (hs : s.length ≤ 900000) (w0 : World) (h : PH) : PCalls Try.prog w0 27 [str key, str s] h fun v h' => v = str (tag key s) ∧ h' = h := by
  refine PCalls_body Try.func27 (by kernel_rfl) rfl _ Try.ntmps27 (by kernel_rfl) (by kernel_rfl) _ Try.results27 ?_
  have hko := keyOf_length key
  have hD := Lib.hid (@digest_any key (by omega) w0 h)
  have hkd : 64 < key.length → keyOf key = Sha.dig key := fun e => by unfold keyOf; rw [if_pos e]
  have hks : ¬ 64 < key.length → keyOf key = key := fun e => by unfold keyOf; rw [if_neg e]
  have htg : tag key s = Sha.dig (mixL (keyOf key) 92 ++ Sha.dig (mixL (keyOf key) 54 ++ s)) := rfl
  rw [htg]
  clear htg
  generalize keyOf key = K at *
  generalize Sha.dig key = DK at *
  have hkl := padKey_length K hko
  have hmI := mixI_all K 54 hko
  have hmO := mixI_all K 92 hko
  have hlI := mixL_length K 54 hko
  have hlO := mixL_length K 92 hko
  by_cases hlt : 64 < key.length
  · have hdI : decide ((64 : Int) < (key.length : Int)) = true := decide_eq_true (by omega)
    obtain rfl := hkd hlt
    simp -dsimp -implicitDefEqProofs (disch := first | omega | assumption | (simp only [Option.isSome_some, Qt0]; done) | (simp only [UInt64.reduceToNat, UInt32.reduceToNat, UInt8.reduceToNat, List.length_cons, List.length_nil, List.length_append, Int.toNat_natCast] <;> omega)) only [Nat.reduceLT, Nat.reduceLeDiff, Nat.reduceEqDiff, ↓reduceIte, Int.reduceLT, Int.reduceLE, Int.reduceToNat, Int.reduceEq, Int.reduceNe, Nat.reduceAdd, UInt8.reduceOfNat, UInt16.reduceOfNat, UInt32.reduceOfNat, UInt64.reduceOfNat, UInt64.reduceToNat, UInt32.reduceToNat, UInt16.reduceToNat, UInt8.reduceToNat, Int.reduceAdd, Int.reduceSub, Int.reduceMul, Nat.reduceMul, Qp0, Ql0, Qe0, hdI]
    refine hD.out.mono ?_
    rintro v h1 ⟨rfl, hz⟩
    rw [hz]
    clear hkd hks hD hz
    simp -dsimp -implicitDefEqProofs (disch := first | omega | assumption | (simp only [Option.isSome_some, Qt0]; done) | (simp only [UInt64.reduceToNat, UInt32.reduceToNat, UInt8.reduceToNat, List.length_cons, List.length_nil, List.length_append, Int.toNat_natCast] <;> omega)) only [Nat.reduceLT, Nat.reduceLeDiff, Nat.reduceEqDiff, ↓reduceIte, Int.reduceLT, Int.reduceLE, Int.reduceToNat, Int.reduceEq, Int.reduceNe, Nat.reduceAdd, UInt8.reduceOfNat, UInt16.reduceOfNat, UInt32.reduceOfNat, UInt64.reduceOfNat, UInt64.reduceToNat, UInt32.reduceToNat, UInt16.reduceToNat, UInt8.reduceToNat, Int.reduceAdd, Int.reduceSub, Int.reduceMul, Nat.reduceMul, Qp0, Ql0, Qe0]
    refine fun b5 hb5 => ?_
    simp -dsimp -implicitDefEqProofs (disch := first | omega | assumption | (simp only [Option.isSome_some, Qt0]; done) | (simp only [UInt64.reduceToNat, UInt32.reduceToNat, UInt8.reduceToNat, List.length_cons, List.length_nil, List.length_append, Int.toNat_natCast] <;> omega)) only [Nat.reduceLT, Nat.reduceLeDiff, Nat.reduceEqDiff, ↓reduceIte, Int.reduceLT, Int.reduceLE, Int.reduceToNat, Int.reduceEq, Int.reduceNe, Nat.reduceAdd, UInt8.reduceOfNat, UInt16.reduceOfNat, UInt32.reduceOfNat, UInt64.reduceOfNat, UInt64.reduceToNat, UInt32.reduceToNat, UInt16.reduceToNat, UInt8.reduceToNat, Int.reduceAdd, Int.reduceSub, Int.reduceMul, Nat.reduceMul, Qp0, Ql0, Qe0]
    refine fun b6 hb6 => ?_
    simp only [PH.new_top] at hb6
    obtain ⟨HT, hHT⟩ : ∃ HT : List Value → List Value → PH, ∀ X Y, HT X Y = (h.new b5 ⟨X, 64⟩).new b6 ⟨Y, 64⟩ := ⟨_, fun _ _ => rfl⟩
    have m5 : ∀ X Y, (HT X Y).m b5 = some ⟨X, 64⟩ := fun X Y => by rw [hHT, PH.new_m, if_neg (by omega), PH.new_m, if_pos rfl]
    have m6 : ∀ X Y, (HT X Y).m b6 = some ⟨Y, 64⟩ := fun X Y => by rw [hHT, PH.new_m, if_pos rfl]
    have n5 : ∀ X Y X', (HT X Y).new b5 ⟨X', 64⟩ = HT X' Y := fun X Y X' => by rw [hHT, hHT, PH.new_swap _ _ _ _ (by omega)]
    have n6 : ∀ X Y Y', (HT X Y).new b6 ⟨Y', 64⟩ = HT X Y' := fun X Y Y' => by rw [hHT, hHT, PH.new_new]
    have hLe : ∀ X Y, PH.Le h (HT X Y) := fun X Y => by rw [hHT]; exact ((PH.Le.refl h).new _ _ hb5).new _ _ (by omega)
    have r5 : ∀ X Y, X.length = 64 → rdN w0 (HT X Y) ⟨b5, 0, none⟩ 64 = some X := fun X Y hX => rdN_known (m5 X Y) hX
    obtain ⟨Z, hZ⟩ : ∃ Z, Z = List.replicate 64 (Value.int .u8 0) := ⟨_, rfl⟩
    have hZl : Z.length = 64 := by rw [hZ, List.length_replicate]
    have hZK : Z.take 0 ++ bs K ++ Z.drop (0 + K.length) = bs (padKey K) := by
      rw [hZ, Nat.zero_add, List.drop_replicate]; simp [padKey, bs, u8]
    rw [← hZ]
    simp -dsimp -implicitDefEqProofs (disch := first | omega | assumption | (simp only [Option.isSome_some, Qt0]; done) | (simp only [UInt64.reduceToNat, UInt32.reduceToNat, UInt8.reduceToNat, List.length_cons, List.length_nil, List.length_append, Int.toNat_natCast] <;> omega)) only [Nat.reduceLT, Nat.reduceLeDiff, Nat.reduceEqDiff, ↓reduceIte, Int.reduceLT, Int.reduceLE, Int.reduceToNat, Int.reduceEq, Int.reduceNe, Nat.reduceAdd, UInt8.reduceOfNat, UInt16.reduceOfNat, UInt32.reduceOfNat, UInt64.reduceOfNat, UInt64.reduceToNat, UInt32.reduceToNat, UInt16.reduceToNat, UInt8.reduceToNat, Int.reduceAdd, Int.reduceSub, Int.reduceMul, Nat.reduceMul, Qp0, Ql0, Qe0, hZl, (hHT Z Z).symm]
    refine Does_copyT Try.underlying49 sz5 (m5 Z Z) (by omega) (by rw [hZl]; omega) ?_
    rw [hZK, n5]
    have hpb : (bs (padKey K)).length = 64 := by rw [bs_length, hkl]
    have hpo := bs_one (padKey K)
    have hspZ : Z.take 0 ++ bs (padKey K) ++ Z.drop 64 = bs (padKey K) := by rw [List.drop_of_length_le (by omega)]; simp
    have r5K := r5 (bs (padKey K)) Z hpb
    simp -dsimp -implicitDefEqProofs (disch := first | omega | assumption | (simp only [Option.isSome_some, Qt0]; done) | (simp only [UInt64.reduceToNat, UInt32.reduceToNat, UInt8.reduceToNat, List.length_cons, List.length_nil, List.length_append, Int.toNat_natCast] <;> omega)) only [Nat.reduceLT, Nat.reduceLeDiff, Nat.reduceEqDiff, ↓reduceIte, Int.reduceLT, Int.reduceLE, Int.reduceToNat, Int.reduceEq, Int.reduceNe, Nat.reduceAdd, UInt8.reduceOfNat, UInt16.reduceOfNat, UInt32.reduceOfNat, UInt64.reduceOfNat, UInt64.reduceToNat, UInt32.reduceToNat, UInt16.reduceToNat, UInt8.reduceToNat, Int.reduceAdd, Int.reduceSub, Int.reduceMul, Nat.reduceMul, Qp0, Ql0, Qe0, r5K, m6, hZl, hpb, hpo, hspZ, n6]
    refine PW_loop (fun n f h' => ∃ i : Nat, i + n = 64 ∧ f 1 = some (str s) ∧ f 5 = some (.pointer (some ⟨b5, 0, none⟩)) ∧ f 6 = some (.pointer (some ⟨b6, 0, none⟩)) ∧ f 17 = some (.int .i64 i) ∧ h' = HT (bs (mixI (padKey K) 54 i)) (bs (mixI (padKey K) 92 i))) (by kernel_rfl) 64 ⟨0, by omega, ?_, ?_, ?_, ?_, by rw [mixI_zero, mixI_zero]⟩ ?_
    · simp -dsimp -implicitDefEqProofs (disch := first | omega | assumption | (simp only [Option.isSome_some, Qt0]; done) | (simp only [UInt64.reduceToNat, UInt32.reduceToNat, UInt8.reduceToNat, List.length_cons, List.length_nil, List.length_append, Int.toNat_natCast] <;> omega)) only [Nat.reduceLT, Nat.reduceLeDiff, Nat.reduceEqDiff, ↓reduceIte, Int.reduceLT, Int.reduceLE, Int.reduceToNat, Int.reduceEq, Int.reduceNe, Nat.reduceAdd, UInt8.reduceOfNat, UInt16.reduceOfNat, UInt32.reduceOfNat, UInt64.reduceOfNat, UInt64.reduceToNat, UInt32.reduceToNat, UInt16.reduceToNat, UInt8.reduceToNat, Int.reduceAdd, Int.reduceSub, Int.reduceMul, Nat.reduceMul, Qp0, Ql0, Qe0]
    · simp -dsimp -implicitDefEqProofs (disch := first | omega | assumption | (simp only [Option.isSome_some, Qt0]; done) | (simp only [UInt64.reduceToNat, UInt32.reduceToNat, UInt8.reduceToNat, List.length_cons, List.length_nil, List.length_append, Int.toNat_natCast] <;> omega)) only [Nat.reduceLT, Nat.reduceLeDiff, Nat.reduceEqDiff, ↓reduceIte, Int.reduceLT, Int.reduceLE, Int.reduceToNat, Int.reduceEq, Int.reduceNe, Nat.reduceAdd, UInt8.reduceOfNat, UInt16.reduceOfNat, UInt32.reduceOfNat, UInt64.reduceOfNat, UInt64.reduceToNat, UInt32.reduceToNat, UInt16.reduceToNat, UInt8.reduceToNat, Int.reduceAdd, Int.reduceSub, Int.reduceMul, Nat.reduceMul, Qp0, Ql0, Qe0]
    · simp -dsimp -implicitDefEqProofs (disch := first | omega | assumption | (simp only [Option.isSome_some, Qt0]; done) | (simp only [UInt64.reduceToNat, UInt32.reduceToNat, UInt8.reduceToNat, List.length_cons, List.length_nil, List.length_append, Int.toNat_natCast] <;> omega)) only [Nat.reduceLT, Nat.reduceLeDiff, Nat.reduceEqDiff, ↓reduceIte, Int.reduceLT, Int.reduceLE, Int.reduceToNat, Int.reduceEq, Int.reduceNe, Nat.reduceAdd, UInt8.reduceOfNat, UInt16.reduceOfNat, UInt32.reduceOfNat, UInt64.reduceOfNat, UInt64.reduceToNat, UInt32.reduceToNat, UInt16.reduceToNat, UInt8.reduceToNat, Int.reduceAdd, Int.reduceSub, Int.reduceMul, Nat.reduceMul, Qp0, Ql0, Qe0]
    · simp -dsimp -implicitDefEqProofs (disch := first | omega | assumption | (simp only [Option.isSome_some, Qt0]; done) | (simp only [UInt64.reduceToNat, UInt32.reduceToNat, UInt8.reduceToNat, List.length_cons, List.length_nil, List.length_append, Int.toNat_natCast] <;> omega)) only [Nat.reduceLT, Nat.reduceLeDiff, Nat.reduceEqDiff, ↓reduceIte, Int.reduceLT, Int.reduceLE, Int.reduceToNat, Int.reduceEq, Int.reduceNe, Nat.reduceAdd, UInt8.reduceOfNat, UInt16.reduceOfNat, UInt32.reduceOfNat, UInt64.reduceOfNat, UInt64.reduceToNat, UInt32.reduceToNat, UInt16.reduceToNat, UInt8.reduceToNat, Int.reduceAdd, Int.reduceSub, Int.reduceMul, Nat.reduceMul, Qp0, Ql0, Qe0]
      try rfl
    rintro n f h' ⟨i, hin, f1, f5, f6, f17, rfl⟩
    by_cases hi : i < 64
    · have hiI : decide ((i : Int) < 64) = true := decide_eq_true (by omega)
      have g5 := mixI_get (padKey K) 54 i (by omega)
      have g6 := mixI_get (padKey K) 92 i (by omega)
      have s5 := mixI_set (padKey K) 54 i (by omega)
      have s6 := mixI_set (padKey K) 92 i (by omega)
      have l5 : (bs (mixI (padKey K) 54 i)).length = 64 := by rw [bs_length, mixI_length, hkl]
      have l6 : (bs (mixI (padKey K) 92 i)).length = 64 := by rw [bs_length, mixI_length, hkl]
      generalize (padKey K).getD i 0 = c at *
      simp -dsimp -implicitDefEqProofs (disch := first | omega | assumption | (simp only [Option.isSome_some, Qt0]; done) | (simp only [UInt64.reduceToNat, UInt32.reduceToNat, UInt8.reduceToNat, List.length_cons, List.length_nil, List.length_append, Int.toNat_natCast] <;> omega)) only [Nat.reduceLT, Nat.reduceLeDiff, Nat.reduceEqDiff, ↓reduceIte, Int.reduceLT, Int.reduceLE, Int.reduceToNat, Int.reduceEq, Int.reduceNe, Nat.reduceAdd, UInt8.reduceOfNat, UInt16.reduceOfNat, UInt32.reduceOfNat, UInt64.reduceOfNat, UInt64.reduceToNat, UInt32.reduceToNat, UInt16.reduceToNat, UInt8.reduceToNat, Int.reduceAdd, Int.reduceSub, Int.reduceMul, Nat.reduceMul, Qp0, Ql0, Qe0, f1, f5, f6, f17, hiI, rd_M, rdM_some, m5, m6, n5, n6, g5, g6, l5, l6, s5, s6]
      exact ⟨n - 1, _, by omega, PH.Le.refl _, i + 1, by omega, trivial, trivial, trivial, by simp, rfl⟩
    · obtain rfl : i = 64 := by omega
      rw [hmI, hmO]
      generalize mixL K 54 = I at *
      generalize mixL K 92 = O at *
      simp -dsimp -implicitDefEqProofs (disch := first | omega | assumption | (simp only [Option.isSome_some, Qt0]; done) | (simp only [UInt64.reduceToNat, UInt32.reduceToNat, UInt8.reduceToNat, List.length_cons, List.length_nil, List.length_append, Int.toNat_natCast] <;> omega)) only [Nat.reduceLT, Nat.reduceLeDiff, Nat.reduceEqDiff, ↓reduceIte, Int.reduceLT, Int.reduceLE, Int.reduceToNat, Int.reduceEq, Int.reduceNe, Nat.reduceAdd, UInt8.reduceOfNat, UInt16.reduceOfNat, UInt32.reduceOfNat, UInt64.reduceOfNat, UInt64.reduceToNat, UInt32.reduceToNat, UInt16.reduceToNat, UInt8.reduceToNat, Int.reduceAdd, Int.reduceSub, Int.reduceMul, Nat.reduceMul, Qp0, Ql0, Qe0, f1, f5, f6, f17]
      refine PW_drawn 6 (HT (bs I) (bs O)) (by kernel_rfl) (by kernel_rfl) (by kernel_rfl) (by kernel_rfl) (by kernel_rfl) (fun c f h hq => by simp only [thenC_panic, thenK_panic, inBlk_panic, thenN_panic, vcRet_panic] at hq) (PH.Le.refl _).sub ?_
      simp -dsimp -implicitDefEqProofs (disch := first | omega | assumption | (simp only [Option.isSome_some, Qt0]; done) | (simp only [UInt64.reduceToNat, UInt32.reduceToNat, UInt8.reduceToNat, List.length_cons, List.length_nil, List.length_append, Int.toNat_natCast] <;> omega)) only [Nat.reduceLT, Nat.reduceLeDiff, Nat.reduceEqDiff, ↓reduceIte, Int.reduceLT, Int.reduceLE, Int.reduceToNat, Int.reduceEq, Int.reduceNe, Nat.reduceAdd, UInt8.reduceOfNat, UInt16.reduceOfNat, UInt32.reduceOfNat, UInt64.reduceOfNat, UInt64.reduceToNat, UInt32.reduceToNat, UInt16.reduceToNat, UInt8.reduceToNat, Int.reduceAdd, Int.reduceSub, Int.reduceMul, Nat.reduceMul, Qp0, Ql0, Qe0, f1, f5, f6]
      refine vtext_own Try.underlying49 Try.underlying5 Try.underlying9 (Rs.blk (m6 _ _) (by simp only [bs_length]; omega)) (fun e => by cases e) ?_
      simp -dsimp -implicitDefEqProofs (disch := first | omega | assumption | (simp only [Option.isSome_some, Qt0]; done) | (simp only [UInt64.reduceToNat, UInt32.reduceToNat, UInt8.reduceToNat, List.length_cons, List.length_nil, List.length_append, Int.toNat_natCast] <;> omega)) only [Nat.reduceLT, Nat.reduceLeDiff, Nat.reduceEqDiff, ↓reduceIte, Int.reduceLT, Int.reduceLE, Int.reduceToNat, Int.reduceEq, Int.reduceNe, Nat.reduceAdd, UInt8.reduceOfNat, UInt16.reduceOfNat, UInt32.reduceOfNat, UInt64.reduceOfNat, UInt64.reduceToNat, UInt32.reduceToNat, UInt16.reduceToNat, UInt8.reduceToNat, Int.reduceAdd, Int.reduceSub, Int.reduceMul, Nat.reduceMul, Qp0, Ql0, Qe0, f1, f5, f6]
      refine vtext_own Try.underlying49 Try.underlying5 Try.underlying9 (Rs.blk (m5 _ _) (by simp only [bs_length]; omega)) (fun e => by cases e) ?_
      simp -dsimp -implicitDefEqProofs (disch := first | omega | assumption | (simp only [Option.isSome_some, Qt0]; done) | (simp only [UInt64.reduceToNat, UInt32.reduceToNat, UInt8.reduceToNat, List.length_cons, List.length_nil, List.length_append, Int.toNat_natCast] <;> omega)) only [Nat.reduceLT, Nat.reduceLeDiff, Nat.reduceEqDiff, ↓reduceIte, Int.reduceLT, Int.reduceLE, Int.reduceToNat, Int.reduceEq, Int.reduceNe, Nat.reduceAdd, UInt8.reduceOfNat, UInt16.reduceOfNat, UInt32.reduceOfNat, UInt64.reduceOfNat, UInt64.reduceToNat, UInt32.reduceToNat, UInt16.reduceToNat, UInt8.reduceToNat, Int.reduceAdd, Int.reduceSub, Int.reduceMul, Nat.reduceMul, Qp0, Ql0, Qe0, f1, f5, f6]
      refine (digest_any (I ++ s) (by simp; omega) w0 _).mono ?_
      rintro v h1 ⟨rfl, rfl⟩
      have hdl := Sha.dig_length (I ++ s)
      generalize Sha.dig (I ++ s) = D1 at *
      simp -dsimp -implicitDefEqProofs (disch := first | omega | assumption | (simp only [Option.isSome_some, Qt0]; done) | (simp only [UInt64.reduceToNat, UInt32.reduceToNat, UInt8.reduceToNat, List.length_cons, List.length_nil, List.length_append, Int.toNat_natCast] <;> omega)) only [Nat.reduceLT, Nat.reduceLeDiff, Nat.reduceEqDiff, ↓reduceIte, Int.reduceLT, Int.reduceLE, Int.reduceToNat, Int.reduceEq, Int.reduceNe, Nat.reduceAdd, UInt8.reduceOfNat, UInt16.reduceOfNat, UInt32.reduceOfNat, UInt64.reduceOfNat, UInt64.reduceToNat, UInt32.reduceToNat, UInt16.reduceToNat, UInt8.reduceToNat, Int.reduceAdd, Int.reduceSub, Int.reduceMul, Nat.reduceMul, Qp0, Ql0, Qe0, f1, f5, f6]
      refine ⟨(PH.Le.refl _).sub, ?_⟩
      simp -dsimp -implicitDefEqProofs (disch := first | omega | assumption | (simp only [Option.isSome_some, Qt0]; done) | (simp only [UInt64.reduceToNat, UInt32.reduceToNat, UInt8.reduceToNat, List.length_cons, List.length_nil, List.length_append, Int.toNat_natCast] <;> omega)) only [Nat.reduceLT, Nat.reduceLeDiff, Nat.reduceEqDiff, ↓reduceIte, Int.reduceLT, Int.reduceLE, Int.reduceToNat, Int.reduceEq, Int.reduceNe, Nat.reduceAdd, UInt8.reduceOfNat, UInt16.reduceOfNat, UInt32.reduceOfNat, UInt64.reduceOfNat, UInt64.reduceToNat, UInt32.reduceToNat, UInt16.reduceToNat, UInt8.reduceToNat, Int.reduceAdd, Int.reduceSub, Int.reduceMul, Nat.reduceMul, Qp0, Ql0, Qe0, f1, f5, f6]
      refine (digest_any (O ++ D1) (by simp; omega) w0 _).mono ?_
      rintro v h1 ⟨rfl, rfl⟩
      simp -dsimp -implicitDefEqProofs (disch := first | omega | assumption | (simp only [Option.isSome_some, Qt0]; done) | (simp only [UInt64.reduceToNat, UInt32.reduceToNat, UInt8.reduceToNat, List.length_cons, List.length_nil, List.length_append, Int.toNat_natCast] <;> omega)) only [Nat.reduceLT, Nat.reduceLeDiff, Nat.reduceEqDiff, ↓reduceIte, Int.reduceLT, Int.reduceLE, Int.reduceToNat, Int.reduceEq, Int.reduceNe, Nat.reduceAdd, UInt8.reduceOfNat, UInt16.reduceOfNat, UInt32.reduceOfNat, UInt64.reduceOfNat, UInt64.reduceToNat, UInt32.reduceToNat, UInt16.reduceToNat, UInt8.reduceToNat, Int.reduceAdd, Int.reduceSub, Int.reduceMul, Nat.reduceMul, Qp0, Ql0, Qe0, f1, f5, f6]
      refine ⟨(PH.Le.refl _).sub, ?_⟩
      simp -dsimp -implicitDefEqProofs (disch := first | omega | assumption | (simp only [Option.isSome_some, Qt0]; done) | (simp only [UInt64.reduceToNat, UInt32.reduceToNat, UInt8.reduceToNat, List.length_cons, List.length_nil, List.length_append, Int.toNat_natCast] <;> omega)) only [Nat.reduceLT, Nat.reduceLeDiff, Nat.reduceEqDiff, ↓reduceIte, Int.reduceLT, Int.reduceLE, Int.reduceToNat, Int.reduceEq, Int.reduceNe, Nat.reduceAdd, UInt8.reduceOfNat, UInt16.reduceOfNat, UInt32.reduceOfNat, UInt64.reduceOfNat, UInt64.reduceToNat, UInt32.reduceToNat, UInt16.reduceToNat, UInt8.reduceToNat, Int.reduceAdd, Int.reduceSub, Int.reduceMul, Nat.reduceMul, Qp0, Ql0, Qe0, f1, f5, f6]
      exact ⟨_, hLe _ _, by trivial, rfl⟩
  · have hdI : decide ((64 : Int) < (key.length : Int)) = false := decide_eq_false (by omega)
    obtain rfl := hks hlt
    clear hkd hks hD
    simp -dsimp -implicitDefEqProofs (disch := first | omega | assumption | (simp only [Option.isSome_some, Qt0]; done) | (simp only [UInt64.reduceToNat, UInt32.reduceToNat, UInt8.reduceToNat, List.length_cons, List.length_nil, List.length_append, Int.toNat_natCast] <;> omega)) only [Nat.reduceLT, Nat.reduceLeDiff, Nat.reduceEqDiff, ↓reduceIte, Int.reduceLT, Int.reduceLE, Int.reduceToNat, Int.reduceEq, Int.reduceNe, Nat.reduceAdd, UInt8.reduceOfNat, UInt16.reduceOfNat, UInt32.reduceOfNat, UInt64.reduceOfNat, UInt64.reduceToNat, UInt32.reduceToNat, UInt16.reduceToNat, UInt8.reduceToNat, Int.reduceAdd, Int.reduceSub, Int.reduceMul, Nat.reduceMul, Qp0, Ql0, Qe0, hdI]
    refine fun b5 hb5 => ?_
    simp -dsimp -implicitDefEqProofs (disch := first | omega | assumption | (simp only [Option.isSome_some, Qt0]; done) | (simp only [UInt64.reduceToNat, UInt32.reduceToNat, UInt8.reduceToNat, List.length_cons, List.length_nil, List.length_append, Int.toNat_natCast] <;> omega)) only [Nat.reduceLT, Nat.reduceLeDiff, Nat.reduceEqDiff, ↓reduceIte, Int.reduceLT, Int.reduceLE, Int.reduceToNat, Int.reduceEq, Int.reduceNe, Nat.reduceAdd, UInt8.reduceOfNat, UInt16.reduceOfNat, UInt32.reduceOfNat, UInt64.reduceOfNat, UInt64.reduceToNat, UInt32.reduceToNat, UInt16.reduceToNat, UInt8.reduceToNat, Int.reduceAdd, Int.reduceSub, Int.reduceMul, Nat.reduceMul, Qp0, Ql0, Qe0]
    refine fun b6 hb6 => ?_
    simp only [PH.new_top] at hb6
    obtain ⟨HT, hHT⟩ : ∃ HT : List Value → List Value → PH, ∀ X Y, HT X Y = (h.new b5 ⟨X, 64⟩).new b6 ⟨Y, 64⟩ := ⟨_, fun _ _ => rfl⟩
    have m5 : ∀ X Y, (HT X Y).m b5 = some ⟨X, 64⟩ := fun X Y => by rw [hHT, PH.new_m, if_neg (by omega), PH.new_m, if_pos rfl]
    have m6 : ∀ X Y, (HT X Y).m b6 = some ⟨Y, 64⟩ := fun X Y => by rw [hHT, PH.new_m, if_pos rfl]
    have n5 : ∀ X Y X', (HT X Y).new b5 ⟨X', 64⟩ = HT X' Y := fun X Y X' => by rw [hHT, hHT, PH.new_swap _ _ _ _ (by omega)]
    have n6 : ∀ X Y Y', (HT X Y).new b6 ⟨Y', 64⟩ = HT X Y' := fun X Y Y' => by rw [hHT, hHT, PH.new_new]
    have hLe : ∀ X Y, PH.Le h (HT X Y) := fun X Y => by rw [hHT]; exact ((PH.Le.refl h).new _ _ hb5).new _ _ (by omega)
    have r5 : ∀ X Y, X.length = 64 → rdN w0 (HT X Y) ⟨b5, 0, none⟩ 64 = some X := fun X Y hX => rdN_known (m5 X Y) hX
    obtain ⟨Z, hZ⟩ : ∃ Z, Z = List.replicate 64 (Value.int .u8 0) := ⟨_, rfl⟩
    have hZl : Z.length = 64 := by rw [hZ, List.length_replicate]
    have hZK : Z.take 0 ++ bs K ++ Z.drop (0 + K.length) = bs (padKey K) := by
      rw [hZ, Nat.zero_add, List.drop_replicate]; simp [padKey, bs, u8]
    rw [← hZ]
    simp -dsimp -implicitDefEqProofs (disch := first | omega | assumption | (simp only [Option.isSome_some, Qt0]; done) | (simp only [UInt64.reduceToNat, UInt32.reduceToNat, UInt8.reduceToNat, List.length_cons, List.length_nil, List.length_append, Int.toNat_natCast] <;> omega)) only [Nat.reduceLT, Nat.reduceLeDiff, Nat.reduceEqDiff, ↓reduceIte, Int.reduceLT, Int.reduceLE, Int.reduceToNat, Int.reduceEq, Int.reduceNe, Nat.reduceAdd, UInt8.reduceOfNat, UInt16.reduceOfNat, UInt32.reduceOfNat, UInt64.reduceOfNat, UInt64.reduceToNat, UInt32.reduceToNat, UInt16.reduceToNat, UInt8.reduceToNat, Int.reduceAdd, Int.reduceSub, Int.reduceMul, Nat.reduceMul, Qp0, Ql0, Qe0, hZl, (hHT Z Z).symm]
    refine Does_copyT Try.underlying49 sz5 (m5 Z Z) (by omega) (by rw [hZl]; omega) ?_
    rw [hZK, n5]
    have hpb : (bs (padKey K)).length = 64 := by rw [bs_length, hkl]
    have hpo := bs_one (padKey K)
    have hspZ : Z.take 0 ++ bs (padKey K) ++ Z.drop 64 = bs (padKey K) := by rw [List.drop_of_length_le (by omega)]; simp
    have r5K := r5 (bs (padKey K)) Z hpb
    simp -dsimp -implicitDefEqProofs (disch := first | omega | assumption | (simp only [Option.isSome_some, Qt0]; done) | (simp only [UInt64.reduceToNat, UInt32.reduceToNat, UInt8.reduceToNat, List.length_cons, List.length_nil, List.length_append, Int.toNat_natCast] <;> omega)) only [Nat.reduceLT, Nat.reduceLeDiff, Nat.reduceEqDiff, ↓reduceIte, Int.reduceLT, Int.reduceLE, Int.reduceToNat, Int.reduceEq, Int.reduceNe, Nat.reduceAdd, UInt8.reduceOfNat, UInt16.reduceOfNat, UInt32.reduceOfNat, UInt64.reduceOfNat, UInt64.reduceToNat, UInt32.reduceToNat, UInt16.reduceToNat, UInt8.reduceToNat, Int.reduceAdd, Int.reduceSub, Int.reduceMul, Nat.reduceMul, Qp0, Ql0, Qe0, r5K, m6, hZl, hpb, hpo, hspZ, n6]
    refine PW_loop (fun n f h' => ∃ i : Nat, i + n = 64 ∧ f 1 = some (str s) ∧ f 5 = some (.pointer (some ⟨b5, 0, none⟩)) ∧ f 6 = some (.pointer (some ⟨b6, 0, none⟩)) ∧ f 17 = some (.int .i64 i) ∧ h' = HT (bs (mixI (padKey K) 54 i)) (bs (mixI (padKey K) 92 i))) (by kernel_rfl) 64 ⟨0, by omega, ?_, ?_, ?_, ?_, by rw [mixI_zero, mixI_zero]⟩ ?_
    · simp -dsimp -implicitDefEqProofs (disch := first | omega | assumption | (simp only [Option.isSome_some, Qt0]; done) | (simp only [UInt64.reduceToNat, UInt32.reduceToNat, UInt8.reduceToNat, List.length_cons, List.length_nil, List.length_append, Int.toNat_natCast] <;> omega)) only [Nat.reduceLT, Nat.reduceLeDiff, Nat.reduceEqDiff, ↓reduceIte, Int.reduceLT, Int.reduceLE, Int.reduceToNat, Int.reduceEq, Int.reduceNe, Nat.reduceAdd, UInt8.reduceOfNat, UInt16.reduceOfNat, UInt32.reduceOfNat, UInt64.reduceOfNat, UInt64.reduceToNat, UInt32.reduceToNat, UInt16.reduceToNat, UInt8.reduceToNat, Int.reduceAdd, Int.reduceSub, Int.reduceMul, Nat.reduceMul, Qp0, Ql0, Qe0]
    · simp -dsimp -implicitDefEqProofs (disch := first | omega | assumption | (simp only [Option.isSome_some, Qt0]; done) | (simp only [UInt64.reduceToNat, UInt32.reduceToNat, UInt8.reduceToNat, List.length_cons, List.length_nil, List.length_append, Int.toNat_natCast] <;> omega)) only [Nat.reduceLT, Nat.reduceLeDiff, Nat.reduceEqDiff, ↓reduceIte, Int.reduceLT, Int.reduceLE, Int.reduceToNat, Int.reduceEq, Int.reduceNe, Nat.reduceAdd, UInt8.reduceOfNat, UInt16.reduceOfNat, UInt32.reduceOfNat, UInt64.reduceOfNat, UInt64.reduceToNat, UInt32.reduceToNat, UInt16.reduceToNat, UInt8.reduceToNat, Int.reduceAdd, Int.reduceSub, Int.reduceMul, Nat.reduceMul, Qp0, Ql0, Qe0]
    · simp -dsimp -implicitDefEqProofs (disch := first | omega | assumption | (simp only [Option.isSome_some, Qt0]; done) | (simp only [UInt64.reduceToNat, UInt32.reduceToNat, UInt8.reduceToNat, List.length_cons, List.length_nil, List.length_append, Int.toNat_natCast] <;> omega)) only [Nat.reduceLT, Nat.reduceLeDiff, Nat.reduceEqDiff, ↓reduceIte, Int.reduceLT, Int.reduceLE, Int.reduceToNat, Int.reduceEq, Int.reduceNe, Nat.reduceAdd, UInt8.reduceOfNat, UInt16.reduceOfNat, UInt32.reduceOfNat, UInt64.reduceOfNat, UInt64.reduceToNat, UInt32.reduceToNat, UInt16.reduceToNat, UInt8.reduceToNat, Int.reduceAdd, Int.reduceSub, Int.reduceMul, Nat.reduceMul, Qp0, Ql0, Qe0]
    · simp -dsimp -implicitDefEqProofs (disch := first | omega | assumption | (simp only [Option.isSome_some, Qt0]; done) | (simp only [UInt64.reduceToNat, UInt32.reduceToNat, UInt8.reduceToNat, List.length_cons, List.length_nil, List.length_append, Int.toNat_natCast] <;> omega)) only [Nat.reduceLT, Nat.reduceLeDiff, Nat.reduceEqDiff, ↓reduceIte, Int.reduceLT, Int.reduceLE, Int.reduceToNat, Int.reduceEq, Int.reduceNe, Nat.reduceAdd, UInt8.reduceOfNat, UInt16.reduceOfNat, UInt32.reduceOfNat, UInt64.reduceOfNat, UInt64.reduceToNat, UInt32.reduceToNat, UInt16.reduceToNat, UInt8.reduceToNat, Int.reduceAdd, Int.reduceSub, Int.reduceMul, Nat.reduceMul, Qp0, Ql0, Qe0]
      try rfl
    rintro n f h' ⟨i, hin, f1, f5, f6, f17, rfl⟩
    by_cases hi : i < 64
    · have hiI : decide ((i : Int) < 64) = true := decide_eq_true (by omega)
      have g5 := mixI_get (padKey K) 54 i (by omega)
      have g6 := mixI_get (padKey K) 92 i (by omega)
      have s5 := mixI_set (padKey K) 54 i (by omega)
      have s6 := mixI_set (padKey K) 92 i (by omega)
      have l5 : (bs (mixI (padKey K) 54 i)).length = 64 := by rw [bs_length, mixI_length, hkl]
      have l6 : (bs (mixI (padKey K) 92 i)).length = 64 := by rw [bs_length, mixI_length, hkl]
      generalize (padKey K).getD i 0 = c at *
      simp -dsimp -implicitDefEqProofs (disch := first | omega | assumption | (simp only [Option.isSome_some, Qt0]; done) | (simp only [UInt64.reduceToNat, UInt32.reduceToNat, UInt8.reduceToNat, List.length_cons, List.length_nil, List.length_append, Int.toNat_natCast] <;> omega)) only [Nat.reduceLT, Nat.reduceLeDiff, Nat.reduceEqDiff, ↓reduceIte, Int.reduceLT, Int.reduceLE, Int.reduceToNat, Int.reduceEq, Int.reduceNe, Nat.reduceAdd, UInt8.reduceOfNat, UInt16.reduceOfNat, UInt32.reduceOfNat, UInt64.reduceOfNat, UInt64.reduceToNat, UInt32.reduceToNat, UInt16.reduceToNat, UInt8.reduceToNat, Int.reduceAdd, Int.reduceSub, Int.reduceMul, Nat.reduceMul, Qp0, Ql0, Qe0, f1, f5, f6, f17, hiI, rd_M, rdM_some, m5, m6, n5, n6, g5, g6, l5, l6, s5, s6]
      exact ⟨n - 1, _, by omega, PH.Le.refl _, i + 1, by omega, trivial, trivial, trivial, by simp, rfl⟩
    · obtain rfl : i = 64 := by omega
      rw [hmI, hmO]
      generalize mixL K 54 = I at *
      generalize mixL K 92 = O at *
      simp -dsimp -implicitDefEqProofs (disch := first | omega | assumption | (simp only [Option.isSome_some, Qt0]; done) | (simp only [UInt64.reduceToNat, UInt32.reduceToNat, UInt8.reduceToNat, List.length_cons, List.length_nil, List.length_append, Int.toNat_natCast] <;> omega)) only [Nat.reduceLT, Nat.reduceLeDiff, Nat.reduceEqDiff, ↓reduceIte, Int.reduceLT, Int.reduceLE, Int.reduceToNat, Int.reduceEq, Int.reduceNe, Nat.reduceAdd, UInt8.reduceOfNat, UInt16.reduceOfNat, UInt32.reduceOfNat, UInt64.reduceOfNat, UInt64.reduceToNat, UInt32.reduceToNat, UInt16.reduceToNat, UInt8.reduceToNat, Int.reduceAdd, Int.reduceSub, Int.reduceMul, Nat.reduceMul, Qp0, Ql0, Qe0, f1, f5, f6, f17]
      refine PW_drawn 6 (HT (bs I) (bs O)) (by kernel_rfl) (by kernel_rfl) (by kernel_rfl) (by kernel_rfl) (by kernel_rfl) (fun c f h hq => by simp only [thenC_panic, thenK_panic, inBlk_panic, thenN_panic, vcRet_panic] at hq) (PH.Le.refl _).sub ?_
      simp -dsimp -implicitDefEqProofs (disch := first | omega | assumption | (simp only [Option.isSome_some, Qt0]; done) | (simp only [UInt64.reduceToNat, UInt32.reduceToNat, UInt8.reduceToNat, List.length_cons, List.length_nil, List.length_append, Int.toNat_natCast] <;> omega)) only [Nat.reduceLT, Nat.reduceLeDiff, Nat.reduceEqDiff, ↓reduceIte, Int.reduceLT, Int.reduceLE, Int.reduceToNat, Int.reduceEq, Int.reduceNe, Nat.reduceAdd, UInt8.reduceOfNat, UInt16.reduceOfNat, UInt32.reduceOfNat, UInt64.reduceOfNat, UInt64.reduceToNat, UInt32.reduceToNat, UInt16.reduceToNat, UInt8.reduceToNat, Int.reduceAdd, Int.reduceSub, Int.reduceMul, Nat.reduceMul, Qp0, Ql0, Qe0, f1, f5, f6]
      refine vtext_own Try.underlying49 Try.underlying5 Try.underlying9 (Rs.blk (m6 _ _) (by simp only [bs_length]; omega)) (fun e => by cases e) ?_
      simp -dsimp -implicitDefEqProofs (disch := first | omega | assumption | (simp only [Option.isSome_some, Qt0]; done) | (simp only [UInt64.reduceToNat, UInt32.reduceToNat, UInt8.reduceToNat, List.length_cons, List.length_nil, List.length_append, Int.toNat_natCast] <;> omega)) only [Nat.reduceLT, Nat.reduceLeDiff, Nat.reduceEqDiff, ↓reduceIte, Int.reduceLT, Int.reduceLE, Int.reduceToNat, Int.reduceEq, Int.reduceNe, Nat.reduceAdd, UInt8.reduceOfNat, UInt16.reduceOfNat, UInt32.reduceOfNat, UInt64.reduceOfNat, UInt64.reduceToNat, UInt32.reduceToNat, UInt16.reduceToNat, UInt8.reduceToNat, Int.reduceAdd, Int.reduceSub, Int.reduceMul, Nat.reduceMul, Qp0, Ql0, Qe0, f1, f5, f6]
      refine vtext_own Try.underlying49 Try.underlying5 Try.underlying9 (Rs.blk (m5 _ _) (by simp only [bs_length]; omega)) (fun e => by cases e) ?_
      simp -dsimp -implicitDefEqProofs (disch := first | omega | assumption | (simp only [Option.isSome_some, Qt0]; done) | (simp only [UInt64.reduceToNat, UInt32.reduceToNat, UInt8.reduceToNat, List.length_cons, List.length_nil, List.length_append, Int.toNat_natCast] <;> omega)) only [Nat.reduceLT, Nat.reduceLeDiff, Nat.reduceEqDiff, ↓reduceIte, Int.reduceLT, Int.reduceLE, Int.reduceToNat, Int.reduceEq, Int.reduceNe, Nat.reduceAdd, UInt8.reduceOfNat, UInt16.reduceOfNat, UInt32.reduceOfNat, UInt64.reduceOfNat, UInt64.reduceToNat, UInt32.reduceToNat, UInt16.reduceToNat, UInt8.reduceToNat, Int.reduceAdd, Int.reduceSub, Int.reduceMul, Nat.reduceMul, Qp0, Ql0, Qe0, f1, f5, f6]
      refine (digest_any (I ++ s) (by simp; omega) w0 _).mono ?_
      rintro v h1 ⟨rfl, rfl⟩
      have hdl := Sha.dig_length (I ++ s)
      generalize Sha.dig (I ++ s) = D1 at *
      simp -dsimp -implicitDefEqProofs (disch := first | omega | assumption | (simp only [Option.isSome_some, Qt0]; done) | (simp only [UInt64.reduceToNat, UInt32.reduceToNat, UInt8.reduceToNat, List.length_cons, List.length_nil, List.length_append, Int.toNat_natCast] <;> omega)) only [Nat.reduceLT, Nat.reduceLeDiff, Nat.reduceEqDiff, ↓reduceIte, Int.reduceLT, Int.reduceLE, Int.reduceToNat, Int.reduceEq, Int.reduceNe, Nat.reduceAdd, UInt8.reduceOfNat, UInt16.reduceOfNat, UInt32.reduceOfNat, UInt64.reduceOfNat, UInt64.reduceToNat, UInt32.reduceToNat, UInt16.reduceToNat, UInt8.reduceToNat, Int.reduceAdd, Int.reduceSub, Int.reduceMul, Nat.reduceMul, Qp0, Ql0, Qe0, f1, f5, f6]
      refine ⟨(PH.Le.refl _).sub, ?_⟩
      simp -dsimp -implicitDefEqProofs (disch := first | omega | assumption | (simp only [Option.isSome_some, Qt0]; done) | (simp only [UInt64.reduceToNat, UInt32.reduceToNat, UInt8.reduceToNat, List.length_cons, List.length_nil, List.length_append, Int.toNat_natCast] <;> omega)) only [Nat.reduceLT, Nat.reduceLeDiff, Nat.reduceEqDiff, ↓reduceIte, Int.reduceLT, Int.reduceLE, Int.reduceToNat, Int.reduceEq, Int.reduceNe, Nat.reduceAdd, UInt8.reduceOfNat, UInt16.reduceOfNat, UInt32.reduceOfNat, UInt64.reduceOfNat, UInt64.reduceToNat, UInt32.reduceToNat, UInt16.reduceToNat, UInt8.reduceToNat, Int.reduceAdd, Int.reduceSub, Int.reduceMul, Nat.reduceMul, Qp0, Ql0, Qe0, f1, f5, f6]
      refine (digest_any (O ++ D1) (by simp; omega) w0 _).mono ?_
      rintro v h1 ⟨rfl, rfl⟩
      simp -dsimp -implicitDefEqProofs (disch := first | omega | assumption | (simp only [Option.isSome_some, Qt0]; done) | (simp only [UInt64.reduceToNat, UInt32.reduceToNat, UInt8.reduceToNat, List.length_cons, List.length_nil, List.length_append, Int.toNat_natCast] <;> omega)) only [Nat.reduceLT, Nat.reduceLeDiff, Nat.reduceEqDiff, ↓reduceIte, Int.reduceLT, Int.reduceLE, Int.reduceToNat, Int.reduceEq, Int.reduceNe, Nat.reduceAdd, UInt8.reduceOfNat, UInt16.reduceOfNat, UInt32.reduceOfNat, UInt64.reduceOfNat, UInt64.reduceToNat, UInt32.reduceToNat, UInt16.reduceToNat, UInt8.reduceToNat, Int.reduceAdd, Int.reduceSub, Int.reduceMul, Nat.reduceMul, Qp0, Ql0, Qe0, f1, f5, f6]
      refine ⟨(PH.Le.refl _).sub, ?_⟩
      simp -dsimp -implicitDefEqProofs (disch := first | omega | assumption | (simp only [Option.isSome_some, Qt0]; done) | (simp only [UInt64.reduceToNat, UInt32.reduceToNat, UInt8.reduceToNat, List.length_cons, List.length_nil, List.length_append, Int.toNat_natCast] <;> omega)) only [Nat.reduceLT, Nat.reduceLeDiff, Nat.reduceEqDiff, ↓reduceIte, Int.reduceLT, Int.reduceLE, Int.reduceToNat, Int.reduceEq, Int.reduceNe, Nat.reduceAdd, UInt8.reduceOfNat, UInt16.reduceOfNat, UInt32.reduceOfNat, UInt64.reduceOfNat, UInt64.reduceToNat, UInt32.reduceToNat, UInt16.reduceToNat, UInt8.reduceToNat, Int.reduceAdd, Int.reduceSub, Int.reduceMul, Nat.reduceMul, Qp0, Ql0, Qe0, f1, f5, f6]
      exact ⟨_, hLe _ _, by trivial, rfl⟩
end Go.Proofs.Ytdlaoeepeakpeaa


/- Walks of the program's and the reference's Derive: the key of a number. -/
namespace Go.Proofs.Ytdlaoeepeakpeaa
set_option linter.unusedVariables false
set_option linter.unusedSimpArgs false
open Go.RowKit Px
def derive (m : List UInt8) (n : Int) : List UInt8 := tag m ([107, 101, 121] ++ Sha.be 8 (UInt64.ofInt n).toNat)
set_option maxRecDepth 20000 in
theorem derive_any (m : List UInt8) (n : Int) (hm : m.length ≤ 900000) (w0 : World) (h : PH) : PCalls Try.prog w0 49 [str m, .int .i64 n] h fun v h' => v = str (derive m n) ∧ h' = h := by
  refine PCalls_body Try.func49 (by kernel_rfl) rfl _ Try.ntmps49 (by kernel_rfl) (by kernel_rfl) _ Try.results49 ?_
  simp -dsimp -implicitDefEqProofs (disch := first | omega | assumption | (simp only [Option.isSome_some, Qt0]; done) | (simp only [UInt64.reduceToNat, UInt32.reduceToNat, UInt8.reduceToNat, List.length_cons, List.length_nil, List.length_append, Int.toNat_natCast] <;> omega)) only [Nat.reduceLT, Nat.reduceLeDiff, Nat.reduceEqDiff, ↓reduceIte, Int.reduceLT, Int.reduceLE, Int.reduceToNat, Int.reduceEq, Int.reduceNe, Nat.reduceAdd, UInt8.reduceOfNat, UInt16.reduceOfNat, UInt32.reduceOfNat, UInt64.reduceOfNat, UInt64.reduceToNat, UInt32.reduceToNat, UInt16.reduceToNat, UInt8.reduceToNat, Int.reduceAdd, Int.reduceSub, Int.reduceMul, Nat.reduceMul, Qp0, Ql0, Qe0]
  refine (eight_any (UInt64.ofInt n) w0 _).mono ?_
  rintro v h1 ⟨b, rfl, hb, rfl⟩
  simp -dsimp -implicitDefEqProofs (disch := first | omega | assumption | (simp only [Option.isSome_some, Qt0]; done) | (simp only [UInt64.reduceToNat, UInt32.reduceToNat, UInt8.reduceToNat, List.length_cons, List.length_nil, List.length_append, Int.toNat_natCast] <;> omega)) only [Nat.reduceLT, Nat.reduceLeDiff, Nat.reduceEqDiff, ↓reduceIte, Int.reduceLT, Int.reduceLE, Int.reduceToNat, Int.reduceEq, Int.reduceNe, Nat.reduceAdd, UInt8.reduceOfNat, UInt16.reduceOfNat, UInt32.reduceOfNat, UInt64.reduceOfNat, UInt64.reduceToNat, UInt32.reduceToNat, UInt16.reduceToNat, UInt8.reduceToNat, Int.reduceAdd, Int.reduceSub, Int.reduceMul, Nat.reduceMul, Qp0, Ql0, Qe0]
  refine vtext_own Try.underlying49 Try.underlying5 Try.underlying9 (Rs.blk (k := ⟨bs (Sha.be 8 (UInt64.ofInt n).toNat), 8⟩) (by rw [PH.new_m, if_pos rfl]) (by simp only [bs_length, Sha.be_length])) (fun e => by cases e) ?_
  have hl := Sha.be_length 8 (UInt64.ofInt n).toNat
  have ht := Lib.hid (@tag_any m ([107, 101, 121] ++ Sha.be 8 (UInt64.ofInt n).toNat) hm (by simp [hl]) w0 (h.new b ⟨bs (Sha.be 8 (UInt64.ofInt n).toNat), 8⟩))
  have hle : PH.Le h (h.new b ⟨bs (Sha.be 8 (UInt64.ofInt n).toNat), 8⟩) := (PH.Le.refl h).new _ _ hb
  have hd : tag m ([107, 101, 121] ++ Sha.be 8 (UInt64.ofInt n).toNat) = derive m n := rfl
  rw [hd] at ht
  clear hd
  generalize Sha.be 8 (UInt64.ofInt n).toNat = B at *
  simp -dsimp -implicitDefEqProofs (disch := first | omega | assumption | (simp only [Option.isSome_some, Qt0]; done) | (simp only [UInt64.reduceToNat, UInt32.reduceToNat, UInt8.reduceToNat, List.length_cons, List.length_nil, List.length_append, Int.toNat_natCast] <;> omega)) only [Nat.reduceLT, Nat.reduceLeDiff, Nat.reduceEqDiff, ↓reduceIte, Int.reduceLT, Int.reduceLE, Int.reduceToNat, Int.reduceEq, Int.reduceNe, Nat.reduceAdd, UInt8.reduceOfNat, UInt16.reduceOfNat, UInt32.reduceOfNat, UInt64.reduceOfNat, UInt64.reduceToNat, UInt32.reduceToNat, UInt16.reduceToNat, UInt8.reduceToNat, Int.reduceAdd, Int.reduceSub, Int.reduceMul, Nat.reduceMul, Qp0, Ql0, Qe0]
  refine ht.out.mono ?_
  rintro v h2 ⟨rfl, rfl⟩
  simp -dsimp -implicitDefEqProofs (disch := first | omega | assumption | (simp only [Option.isSome_some, Qt0]; done) | (simp only [UInt64.reduceToNat, UInt32.reduceToNat, UInt8.reduceToNat, List.length_cons, List.length_nil, List.length_append, Int.toNat_natCast] <;> omega)) only [Nat.reduceLT, Nat.reduceLeDiff, Nat.reduceEqDiff, ↓reduceIte, Int.reduceLT, Int.reduceLE, Int.reduceToNat, Int.reduceEq, Int.reduceNe, Nat.reduceAdd, UInt8.reduceOfNat, UInt16.reduceOfNat, UInt32.reduceOfNat, UInt64.reduceOfNat, UInt64.reduceToNat, UInt32.reduceToNat, UInt16.reduceToNat, UInt8.reduceToNat, Int.reduceAdd, Int.reduceSub, Int.reduceMul, Nat.reduceMul, Qp0, Ql0, Qe0]
  exact ⟨_, hle, by trivial, rfl⟩
end Go.Proofs.Ytdlaoeepeakpeaa


/- Walks of the ring's functions. -/
namespace Go.Proofs.Ytdlaoeepeakpeaa
set_option linter.unusedVariables false
set_option linter.unusedSimpArgs false
open Go.RowKit Px
def right (m : List UInt8) (c : Int) : Prop := 1 ≤ m.length ∧ m.length ≤ 64 ∧ 0 ≤ c ∧ c ≤ 1099511627776
instance (m : List UInt8) (c : Int) : Decidable (right m c) := by unfold right; infer_instance
def alive (c n : Int) : Prop := 0 ≤ n ∧ n ≤ 1099511627776 ∧ c - 2 ≤ n
instance (c n : Int) : Decidable (alive c n) := by unfold alive; infer_instance
def ringT : List UInt8 := [114, 105, 110, 103]
set_option maxRecDepth 20000 in
theorem new_right (m : List UInt8) (c : Int) (hr : right m c) (w0 : World) (h : PH) : PCalls Try.prog w0 10 [str m, .int .i64 c] h fun v h' => ∃ b, v = .tuple #[.pointer (some ⟨b, 0, none⟩), .nilIface] ∧ h.top ≤ b ∧ h' = h.new b ⟨[str m, .int .i64 c], 2⟩ := by
  refine PCalls_body Try.func10 (by kernel_rfl) rfl _ Try.ntmps10 (by kernel_rfl) (by kernel_rfl) _ Try.results10 ?_
  obtain ⟨h1, h2, h3, h4⟩ := hr
  have d1 : decide ((m.length : Int) < 1) = false := decide_eq_false (by omega)
  have d2 : decide (64 < (m.length : Int)) = false := decide_eq_false (by omega)
  have d3 : decide (c < 0) = false := decide_eq_false (by omega)
  have d4 : decide (1099511627776 < c) = false := decide_eq_false (by omega)
  simp -dsimp -implicitDefEqProofs (disch := first | omega | assumption | (simp only [Option.isSome_some, Qt0]; done) | (simp only [UInt64.reduceToNat, UInt32.reduceToNat, UInt8.reduceToNat, List.length_cons, List.length_nil, List.length_append, Int.toNat_natCast] <;> omega)) only [Nat.reduceLT, Nat.reduceLeDiff, Nat.reduceEqDiff, ↓reduceIte, Int.reduceLT, Int.reduceLE, Int.reduceToNat, Int.reduceEq, Int.reduceNe, Nat.reduceAdd, UInt8.reduceOfNat, UInt16.reduceOfNat, UInt32.reduceOfNat, UInt64.reduceOfNat, UInt64.reduceToNat, UInt32.reduceToNat, UInt16.reduceToNat, UInt8.reduceToNat, Int.reduceAdd, Int.reduceSub, Int.reduceMul, Nat.reduceMul, Qp0, Ql0, Qe0, d1, d2, d3, d4]
  refine fun b hb => ?_
  simp -dsimp -implicitDefEqProofs (disch := first | omega | assumption | (simp only [Option.isSome_some, Qt0]; done) | (simp only [UInt64.reduceToNat, UInt32.reduceToNat, UInt8.reduceToNat, List.length_cons, List.length_nil, List.length_append, Int.toNat_natCast] <;> omega)) only [Nat.reduceLT, Nat.reduceLeDiff, Nat.reduceEqDiff, ↓reduceIte, Int.reduceLT, Int.reduceLE, Int.reduceToNat, Int.reduceEq, Int.reduceNe, Nat.reduceAdd, UInt8.reduceOfNat, UInt16.reduceOfNat, UInt32.reduceOfNat, UInt64.reduceOfNat, UInt64.reduceToNat, UInt32.reduceToNat, UInt16.reduceToNat, UInt8.reduceToNat, Int.reduceAdd, Int.reduceSub, Int.reduceMul, Nat.reduceMul, Qp0, Ql0, Qe0]
  exact ⟨_, PH.Le.refl _, b, rfl, hb, rfl⟩
set_option maxRecDepth 20000 in
theorem new_wrong (m : List UInt8) (c : Int) (hr : ¬ right m c) (w0 : World) (h : PH) : PCalls Try.prog w0 10 [str m, .int .i64 c] h fun v h' => ∃ be, v = .tuple #[.pointer none, errV be] ∧ h.top ≤ be ∧ h' = h.new be ⟨[str ringT, .int .i64 0, codeV 1], 3⟩ := by
  refine PCalls_body Try.func10 (by kernel_rfl) rfl _ Try.ntmps10 (by kernel_rfl) (by kernel_rfl) _ Try.results10 ?_
  have hA := Lib.hid (@at_ev ringT 0 (.code 1) _ w0 h rfl)
  unfold right at hr
  by_cases h1 : (m.length : Int) < 1
  · have d1 := decide_eq_true h1
    simp -dsimp -implicitDefEqProofs (disch := first | omega | assumption | (simp only [Option.isSome_some, Qt0]; done) | (simp only [UInt64.reduceToNat, UInt32.reduceToNat, UInt8.reduceToNat, List.length_cons, List.length_nil, List.length_append, Int.toNat_natCast] <;> omega)) only [Nat.reduceLT, Nat.reduceLeDiff, Nat.reduceEqDiff, ↓reduceIte, Int.reduceLT, Int.reduceLE, Int.reduceToNat, Int.reduceEq, Int.reduceNe, Nat.reduceAdd, UInt8.reduceOfNat, UInt16.reduceOfNat, UInt32.reduceOfNat, UInt64.reduceOfNat, UInt64.reduceToNat, UInt32.reduceToNat, UInt16.reduceToNat, UInt8.reduceToNat, Int.reduceAdd, Int.reduceSub, Int.reduceMul, Nat.reduceMul, Qp0, Ql0, Qe0, d1]
    refine hA.out.mono ?_
    rintro v h2 ⟨be, rfl, hbe, rfl⟩
    simp -dsimp -implicitDefEqProofs (disch := first | omega | assumption | (simp only [Option.isSome_some, Qt0]; done) | (simp only [UInt64.reduceToNat, UInt32.reduceToNat, UInt8.reduceToNat, List.length_cons, List.length_nil, List.length_append, Int.toNat_natCast] <;> omega)) only [Nat.reduceLT, Nat.reduceLeDiff, Nat.reduceEqDiff, ↓reduceIte, Int.reduceLT, Int.reduceLE, Int.reduceToNat, Int.reduceEq, Int.reduceNe, Nat.reduceAdd, UInt8.reduceOfNat, UInt16.reduceOfNat, UInt32.reduceOfNat, UInt64.reduceOfNat, UInt64.reduceToNat, UInt32.reduceToNat, UInt16.reduceToNat, UInt8.reduceToNat, Int.reduceAdd, Int.reduceSub, Int.reduceMul, Nat.reduceMul, Qp0, Ql0, Qe0]
    exact ⟨_, PH.Le.refl _, be, rfl, hbe, rfl⟩
  have d1 := decide_eq_false h1
  by_cases h2 : 64 < (m.length : Int)
  · have d2 := decide_eq_true h2
    simp -dsimp -implicitDefEqProofs (disch := first | omega | assumption | (simp only [Option.isSome_some, Qt0]; done) | (simp only [UInt64.reduceToNat, UInt32.reduceToNat, UInt8.reduceToNat, List.length_cons, List.length_nil, List.length_append, Int.toNat_natCast] <;> omega)) only [Nat.reduceLT, Nat.reduceLeDiff, Nat.reduceEqDiff, ↓reduceIte, Int.reduceLT, Int.reduceLE, Int.reduceToNat, Int.reduceEq, Int.reduceNe, Nat.reduceAdd, UInt8.reduceOfNat, UInt16.reduceOfNat, UInt32.reduceOfNat, UInt64.reduceOfNat, UInt64.reduceToNat, UInt32.reduceToNat, UInt16.reduceToNat, UInt8.reduceToNat, Int.reduceAdd, Int.reduceSub, Int.reduceMul, Nat.reduceMul, Qp0, Ql0, Qe0, d1, d2]
    refine hA.out.mono ?_
    rintro v h2 ⟨be, rfl, hbe, rfl⟩
    simp -dsimp -implicitDefEqProofs (disch := first | omega | assumption | (simp only [Option.isSome_some, Qt0]; done) | (simp only [UInt64.reduceToNat, UInt32.reduceToNat, UInt8.reduceToNat, List.length_cons, List.length_nil, List.length_append, Int.toNat_natCast] <;> omega)) only [Nat.reduceLT, Nat.reduceLeDiff, Nat.reduceEqDiff, ↓reduceIte, Int.reduceLT, Int.reduceLE, Int.reduceToNat, Int.reduceEq, Int.reduceNe, Nat.reduceAdd, UInt8.reduceOfNat, UInt16.reduceOfNat, UInt32.reduceOfNat, UInt64.reduceOfNat, UInt64.reduceToNat, UInt32.reduceToNat, UInt16.reduceToNat, UInt8.reduceToNat, Int.reduceAdd, Int.reduceSub, Int.reduceMul, Nat.reduceMul, Qp0, Ql0, Qe0]
    exact ⟨_, PH.Le.refl _, be, rfl, hbe, rfl⟩
  have d2 := decide_eq_false h2
  by_cases h3 : c < 0
  · have d3 := decide_eq_true h3
    simp -dsimp -implicitDefEqProofs (disch := first | omega | assumption | (simp only [Option.isSome_some, Qt0]; done) | (simp only [UInt64.reduceToNat, UInt32.reduceToNat, UInt8.reduceToNat, List.length_cons, List.length_nil, List.length_append, Int.toNat_natCast] <;> omega)) only [Nat.reduceLT, Nat.reduceLeDiff, Nat.reduceEqDiff, ↓reduceIte, Int.reduceLT, Int.reduceLE, Int.reduceToNat, Int.reduceEq, Int.reduceNe, Nat.reduceAdd, UInt8.reduceOfNat, UInt16.reduceOfNat, UInt32.reduceOfNat, UInt64.reduceOfNat, UInt64.reduceToNat, UInt32.reduceToNat, UInt16.reduceToNat, UInt8.reduceToNat, Int.reduceAdd, Int.reduceSub, Int.reduceMul, Nat.reduceMul, Qp0, Ql0, Qe0, d1, d2, d3]
    refine hA.out.mono ?_
    rintro v h2 ⟨be, rfl, hbe, rfl⟩
    simp -dsimp -implicitDefEqProofs (disch := first | omega | assumption | (simp only [Option.isSome_some, Qt0]; done) | (simp only [UInt64.reduceToNat, UInt32.reduceToNat, UInt8.reduceToNat, List.length_cons, List.length_nil, List.length_append, Int.toNat_natCast] <;> omega)) only [Nat.reduceLT, Nat.reduceLeDiff, Nat.reduceEqDiff, ↓reduceIte, Int.reduceLT, Int.reduceLE, Int.reduceToNat, Int.reduceEq, Int.reduceNe, Nat.reduceAdd, UInt8.reduceOfNat, UInt16.reduceOfNat, UInt32.reduceOfNat, UInt64.reduceOfNat, UInt64.reduceToNat, UInt32.reduceToNat, UInt16.reduceToNat, UInt8.reduceToNat, Int.reduceAdd, Int.reduceSub, Int.reduceMul, Nat.reduceMul, Qp0, Ql0, Qe0]
    exact ⟨_, PH.Le.refl _, be, rfl, hbe, rfl⟩
  have d3 := decide_eq_false h3
  have d4 : decide (1099511627776 < c) = true := decide_eq_true (by omega)
  simp -dsimp -implicitDefEqProofs (disch := first | omega | assumption | (simp only [Option.isSome_some, Qt0]; done) | (simp only [UInt64.reduceToNat, UInt32.reduceToNat, UInt8.reduceToNat, List.length_cons, List.length_nil, List.length_append, Int.toNat_natCast] <;> omega)) only [Nat.reduceLT, Nat.reduceLeDiff, Nat.reduceEqDiff, ↓reduceIte, Int.reduceLT, Int.reduceLE, Int.reduceToNat, Int.reduceEq, Int.reduceNe, Nat.reduceAdd, UInt8.reduceOfNat, UInt16.reduceOfNat, UInt32.reduceOfNat, UInt64.reduceOfNat, UInt64.reduceToNat, UInt32.reduceToNat, UInt16.reduceToNat, UInt8.reduceToNat, Int.reduceAdd, Int.reduceSub, Int.reduceMul, Nat.reduceMul, Qp0, Ql0, Qe0, d1, d2, d3, d4]
  refine hA.out.mono ?_
  rintro v h2 ⟨be, rfl, hbe, rfl⟩
  simp -dsimp -implicitDefEqProofs (disch := first | omega | assumption | (simp only [Option.isSome_some, Qt0]; done) | (simp only [UInt64.reduceToNat, UInt32.reduceToNat, UInt8.reduceToNat, List.length_cons, List.length_nil, List.length_append, Int.toNat_natCast] <;> omega)) only [Nat.reduceLT, Nat.reduceLeDiff, Nat.reduceEqDiff, ↓reduceIte, Int.reduceLT, Int.reduceLE, Int.reduceToNat, Int.reduceEq, Int.reduceNe, Nat.reduceAdd, UInt8.reduceOfNat, UInt16.reduceOfNat, UInt32.reduceOfNat, UInt64.reduceOfNat, UInt64.reduceToNat, UInt32.reduceToNat, UInt16.reduceToNat, UInt8.reduceToNat, Int.reduceAdd, Int.reduceSub, Int.reduceMul, Nat.reduceMul, Qp0, Ql0, Qe0]
  exact ⟨_, PH.Le.refl _, be, rfl, hbe, rfl⟩
section
variable (b : Nat) (m : List UInt8) (c n : Int) (w0 : World) (h : PH)
set_option maxRecDepth 20000 in
theorem current_any (hb : h.m b = some ⟨[str m, .int .i64 c], 2⟩) : PCalls Try.prog w0 23 [.pointer (some ⟨b, 0, none⟩)] h fun v h' => v = .int .i64 c ∧ h' = h := by
  refine PCalls_body Try.func23 (by kernel_rfl) rfl _ Try.ntmps23 (by kernel_rfl) (by kernel_rfl) _ Try.results23 ?_
  simp -dsimp -implicitDefEqProofs (disch := first | omega | assumption | (simp only [Option.isSome_some, Qt0]; done) | (simp only [UInt64.reduceToNat, UInt32.reduceToNat, UInt8.reduceToNat, List.length_cons, List.length_nil, List.length_append, Int.toNat_natCast] <;> omega)) only [Nat.reduceLT, Nat.reduceLeDiff, Nat.reduceEqDiff, ↓reduceIte, Int.reduceLT, Int.reduceLE, Int.reduceToNat, Int.reduceEq, Int.reduceNe, Nat.reduceAdd, UInt8.reduceOfNat, UInt16.reduceOfNat, UInt32.reduceOfNat, UInt64.reduceOfNat, UInt64.reduceToNat, UInt32.reduceToNat, UInt16.reduceToNat, UInt8.reduceToNat, Int.reduceAdd, Int.reduceSub, Int.reduceMul, Nat.reduceMul, Qp0, Ql0, Qe0, rd_M, rdM_some, hb]
  exact ⟨_, PH.Le.refl _, by trivial, rfl⟩
set_option maxRecDepth 20000 in
theorem current_nil : PCalls Try.prog w0 23 [.pointer none] h fun v h' => v = .int .i64 0 ∧ h' = h := by
  refine PCalls_body Try.func23 (by kernel_rfl) rfl _ Try.ntmps23 (by kernel_rfl) (by kernel_rfl) _ Try.results23 ?_
  simp -dsimp -implicitDefEqProofs (disch := first | omega | assumption | (simp only [Option.isSome_some, Qt0]; done) | (simp only [UInt64.reduceToNat, UInt32.reduceToNat, UInt8.reduceToNat, List.length_cons, List.length_nil, List.length_append, Int.toNat_natCast] <;> omega)) only [Nat.reduceLT, Nat.reduceLeDiff, Nat.reduceEqDiff, ↓reduceIte, Int.reduceLT, Int.reduceLE, Int.reduceToNat, Int.reduceEq, Int.reduceNe, Nat.reduceAdd, UInt8.reduceOfNat, UInt16.reduceOfNat, UInt32.reduceOfNat, UInt64.reduceOfNat, UInt64.reduceToNat, UInt32.reduceToNat, UInt16.reduceToNat, UInt8.reduceToNat, Int.reduceAdd, Int.reduceSub, Int.reduceMul, Nat.reduceMul, Qp0, Ql0, Qe0]
  exact ⟨_, PH.Le.refl _, by trivial, rfl⟩
set_option maxRecDepth 20000 in
theorem alive_any (hc : 0 ≤ c ∧ c ≤ 1099511627776) (hb : h.m b = some ⟨[str m, .int .i64 c], 2⟩) : PCalls Try.prog w0 48 [.pointer (some ⟨b, 0, none⟩), .int .i64 n] h fun v h' => v = .bool (decide (alive c n)) ∧ h' = h := by
  refine PCalls_body Try.func48 (by kernel_rfl) rfl _ Try.ntmps48 (by kernel_rfl) (by kernel_rfl) _ Try.results48 ?_
  obtain ⟨c0, c1⟩ := hc
  simp -dsimp -implicitDefEqProofs (disch := first | omega | assumption | (simp only [Option.isSome_some, Qt0]; done) | (simp only [UInt64.reduceToNat, UInt32.reduceToNat, UInt8.reduceToNat, List.length_cons, List.length_nil, List.length_append, Int.toNat_natCast] <;> omega)) only [Nat.reduceLT, Nat.reduceLeDiff, Nat.reduceEqDiff, ↓reduceIte, Int.reduceLT, Int.reduceLE, Int.reduceToNat, Int.reduceEq, Int.reduceNe, Nat.reduceAdd, UInt8.reduceOfNat, UInt16.reduceOfNat, UInt32.reduceOfNat, UInt64.reduceOfNat, UInt64.reduceToNat, UInt32.reduceToNat, UInt16.reduceToNat, UInt8.reduceToNat, Int.reduceAdd, Int.reduceSub, Int.reduceMul, Nat.reduceMul, Qp0, Ql0, Qe0, rd_M, rdM_some, hb]
  obtain ⟨M, hM⟩ : ∃ M, (if c - 2 > 0 then c - 2 else 0) = M := ⟨_, rfl⟩
  by_cases d1 : M ≤ n
  · have e1 := decide_eq_true d1
    by_cases d2 : n ≤ 1099511627776
    · have e2 := decide_eq_true d2
      have hal : decide (alive c n) = true := decide_eq_true (by unfold alive; split at hM <;> omega)
      simp -dsimp -implicitDefEqProofs (disch := first | omega | assumption | (simp only [Option.isSome_some, Qt0]; done) | (simp only [UInt64.reduceToNat, UInt32.reduceToNat, UInt8.reduceToNat, List.length_cons, List.length_nil, List.length_append, Int.toNat_natCast] <;> omega)) only [Nat.reduceLT, Nat.reduceLeDiff, Nat.reduceEqDiff, ↓reduceIte, Int.reduceLT, Int.reduceLE, Int.reduceToNat, Int.reduceEq, Int.reduceNe, Nat.reduceAdd, UInt8.reduceOfNat, UInt16.reduceOfNat, UInt32.reduceOfNat, UInt64.reduceOfNat, UInt64.reduceToNat, UInt32.reduceToNat, UInt16.reduceToNat, UInt8.reduceToNat, Int.reduceAdd, Int.reduceSub, Int.reduceMul, Nat.reduceMul, Qp0, Ql0, Qe0, hM, e1, e2, hal]
      exact ⟨_, PH.Le.refl _, by trivial, rfl⟩
    · have e2 := decide_eq_false d2
      have hal : decide (alive c n) = false := decide_eq_false (by unfold alive; omega)
      simp -dsimp -implicitDefEqProofs (disch := first | omega | assumption | (simp only [Option.isSome_some, Qt0]; done) | (simp only [UInt64.reduceToNat, UInt32.reduceToNat, UInt8.reduceToNat, List.length_cons, List.length_nil, List.length_append, Int.toNat_natCast] <;> omega)) only [Nat.reduceLT, Nat.reduceLeDiff, Nat.reduceEqDiff, ↓reduceIte, Int.reduceLT, Int.reduceLE, Int.reduceToNat, Int.reduceEq, Int.reduceNe, Nat.reduceAdd, UInt8.reduceOfNat, UInt16.reduceOfNat, UInt32.reduceOfNat, UInt64.reduceOfNat, UInt64.reduceToNat, UInt32.reduceToNat, UInt16.reduceToNat, UInt8.reduceToNat, Int.reduceAdd, Int.reduceSub, Int.reduceMul, Nat.reduceMul, Qp0, Ql0, Qe0, hM, e1, e2, hal]
      exact ⟨_, PH.Le.refl _, by trivial, rfl⟩
  · have e1 := decide_eq_false d1
    have hal : decide (alive c n) = false := decide_eq_false (by unfold alive; split at hM <;> omega)
    simp -dsimp -implicitDefEqProofs (disch := first | omega | assumption | (simp only [Option.isSome_some, Qt0]; done) | (simp only [UInt64.reduceToNat, UInt32.reduceToNat, UInt8.reduceToNat, List.length_cons, List.length_nil, List.length_append, Int.toNat_natCast] <;> omega)) only [Nat.reduceLT, Nat.reduceLeDiff, Nat.reduceEqDiff, ↓reduceIte, Int.reduceLT, Int.reduceLE, Int.reduceToNat, Int.reduceEq, Int.reduceNe, Nat.reduceAdd, UInt8.reduceOfNat, UInt16.reduceOfNat, UInt32.reduceOfNat, UInt64.reduceOfNat, UInt64.reduceToNat, UInt32.reduceToNat, UInt16.reduceToNat, UInt8.reduceToNat, Int.reduceAdd, Int.reduceSub, Int.reduceMul, Nat.reduceMul, Qp0, Ql0, Qe0, hM, e1, hal]
    exact ⟨_, PH.Le.refl _, by trivial, rfl⟩
set_option maxRecDepth 20000 in
theorem alive_nil : PCalls Try.prog w0 48 [.pointer none, .int .i64 n] h fun v h' => v = .bool false ∧ h' = h := by
  refine PCalls_body Try.func48 (by kernel_rfl) rfl _ Try.ntmps48 (by kernel_rfl) (by kernel_rfl) _ Try.results48 ?_
  simp -dsimp -implicitDefEqProofs (disch := first | omega | assumption | (simp only [Option.isSome_some, Qt0]; done) | (simp only [UInt64.reduceToNat, UInt32.reduceToNat, UInt8.reduceToNat, List.length_cons, List.length_nil, List.length_append, Int.toNat_natCast] <;> omega)) only [Nat.reduceLT, Nat.reduceLeDiff, Nat.reduceEqDiff, ↓reduceIte, Int.reduceLT, Int.reduceLE, Int.reduceToNat, Int.reduceEq, Int.reduceNe, Nat.reduceAdd, UInt8.reduceOfNat, UInt16.reduceOfNat, UInt32.reduceOfNat, UInt64.reduceOfNat, UInt64.reduceToNat, UInt32.reduceToNat, UInt16.reduceToNat, UInt8.reduceToNat, Int.reduceAdd, Int.reduceSub, Int.reduceMul, Nat.reduceMul, Qp0, Ql0, Qe0]
  exact ⟨_, PH.Le.refl _, by trivial, rfl⟩
set_option maxRecDepth 20000 in
theorem key_alive (hm : m.length ≤ 64) (hc : 0 ≤ c ∧ c ≤ 1099511627776) (hn : alive c n) (hb : h.m b = some ⟨[str m, .int .i64 c], 2⟩) : PCalls Try.prog w0 25 [.pointer (some ⟨b, 0, none⟩), .int .i64 n] h fun v h' => v = .tuple #[str (derive m n), .nilIface] ∧ h' = h := by
  refine PCalls_body Try.func25 (by kernel_rfl) rfl _ Try.ntmps25 (by kernel_rfl) (by kernel_rfl) _ Try.results25 ?_
  have hA := alive_any b m c n w0 h hc hb
  rw [decide_eq_true hn] at hA
  have hD := @derive_any m n (by omega) w0 h
  generalize derive m n = D at *
  have hA := Lib.hid hA
  have hD := Lib.hid hD
  simp -dsimp -implicitDefEqProofs (disch := first | omega | assumption | (simp only [Option.isSome_some, Qt0]; done) | (simp only [UInt64.reduceToNat, UInt32.reduceToNat, UInt8.reduceToNat, List.length_cons, List.length_nil, List.length_append, Int.toNat_natCast] <;> omega)) only [Nat.reduceLT, Nat.reduceLeDiff, Nat.reduceEqDiff, ↓reduceIte, Int.reduceLT, Int.reduceLE, Int.reduceToNat, Int.reduceEq, Int.reduceNe, Nat.reduceAdd, UInt8.reduceOfNat, UInt16.reduceOfNat, UInt32.reduceOfNat, UInt64.reduceOfNat, UInt64.reduceToNat, UInt32.reduceToNat, UInt16.reduceToNat, UInt8.reduceToNat, Int.reduceAdd, Int.reduceSub, Int.reduceMul, Nat.reduceMul, Qp0, Ql0, Qe0]
  refine hA.out.mono ?_
  rintro v hz ⟨rfl, rfl⟩
  simp -dsimp -implicitDefEqProofs (disch := first | omega | assumption | (simp only [Option.isSome_some, Qt0]; done) | (simp only [UInt64.reduceToNat, UInt32.reduceToNat, UInt8.reduceToNat, List.length_cons, List.length_nil, List.length_append, Int.toNat_natCast] <;> omega)) only [Nat.reduceLT, Nat.reduceLeDiff, Nat.reduceEqDiff, ↓reduceIte, Int.reduceLT, Int.reduceLE, Int.reduceToNat, Int.reduceEq, Int.reduceNe, Nat.reduceAdd, UInt8.reduceOfNat, UInt16.reduceOfNat, UInt32.reduceOfNat, UInt64.reduceOfNat, UInt64.reduceToNat, UInt32.reduceToNat, UInt16.reduceToNat, UInt8.reduceToNat, Int.reduceAdd, Int.reduceSub, Int.reduceMul, Nat.reduceMul, Qp0, Ql0, Qe0, rd_M, rdM_some, hb]
  refine hD.out.mono ?_
  rintro v hz ⟨rfl, rfl⟩
  simp -dsimp -implicitDefEqProofs (disch := first | omega | assumption | (simp only [Option.isSome_some, Qt0]; done) | (simp only [UInt64.reduceToNat, UInt32.reduceToNat, UInt8.reduceToNat, List.length_cons, List.length_nil, List.length_append, Int.toNat_natCast] <;> omega)) only [Nat.reduceLT, Nat.reduceLeDiff, Nat.reduceEqDiff, ↓reduceIte, Int.reduceLT, Int.reduceLE, Int.reduceToNat, Int.reduceEq, Int.reduceNe, Nat.reduceAdd, UInt8.reduceOfNat, UInt16.reduceOfNat, UInt32.reduceOfNat, UInt64.reduceOfNat, UInt64.reduceToNat, UInt32.reduceToNat, UInt16.reduceToNat, UInt8.reduceToNat, Int.reduceAdd, Int.reduceSub, Int.reduceMul, Nat.reduceMul, Qp0, Ql0, Qe0]
  exact ⟨_, PH.Le.refl _, by trivial, rfl⟩
set_option maxRecDepth 20000 in
theorem key_not (hc : 0 ≤ c ∧ c ≤ 1099511627776) (hn : ¬ alive c n) (hb : h.m b = some ⟨[str m, .int .i64 c], 2⟩) : PCalls Try.prog w0 25 [.pointer (some ⟨b, 0, none⟩), .int .i64 n] h fun v h' => ∃ be, v = .tuple #[str [], errV be] ∧ h.top ≤ be ∧ h' = h.new be ⟨[str ringT, .int .i64 c, codeV 9], 3⟩ := by
  refine PCalls_body Try.func25 (by kernel_rfl) rfl _ Try.ntmps25 (by kernel_rfl) (by kernel_rfl) _ Try.results25 ?_
  have hA := alive_any b m c n w0 h hc hb
  rw [decide_eq_false hn] at hA
  have hA := Lib.hid hA
  have hC := Lib.hid (current_any b m c w0 h hb)
  have hE := Lib.hid (@at_ev ringT c (.code 9) _ w0 h rfl)
  simp -dsimp -implicitDefEqProofs (disch := first | omega | assumption | (simp only [Option.isSome_some, Qt0]; done) | (simp only [UInt64.reduceToNat, UInt32.reduceToNat, UInt8.reduceToNat, List.length_cons, List.length_nil, List.length_append, Int.toNat_natCast] <;> omega)) only [Nat.reduceLT, Nat.reduceLeDiff, Nat.reduceEqDiff, ↓reduceIte, Int.reduceLT, Int.reduceLE, Int.reduceToNat, Int.reduceEq, Int.reduceNe, Nat.reduceAdd, UInt8.reduceOfNat, UInt16.reduceOfNat, UInt32.reduceOfNat, UInt64.reduceOfNat, UInt64.reduceToNat, UInt32.reduceToNat, UInt16.reduceToNat, UInt8.reduceToNat, Int.reduceAdd, Int.reduceSub, Int.reduceMul, Nat.reduceMul, Qp0, Ql0, Qe0]
  refine hA.out.mono ?_
  rintro v hz ⟨rfl, rfl⟩
  simp -dsimp -implicitDefEqProofs (disch := first | omega | assumption | (simp only [Option.isSome_some, Qt0]; done) | (simp only [UInt64.reduceToNat, UInt32.reduceToNat, UInt8.reduceToNat, List.length_cons, List.length_nil, List.length_append, Int.toNat_natCast] <;> omega)) only [Nat.reduceLT, Nat.reduceLeDiff, Nat.reduceEqDiff, ↓reduceIte, Int.reduceLT, Int.reduceLE, Int.reduceToNat, Int.reduceEq, Int.reduceNe, Nat.reduceAdd, UInt8.reduceOfNat, UInt16.reduceOfNat, UInt32.reduceOfNat, UInt64.reduceOfNat, UInt64.reduceToNat, UInt32.reduceToNat, UInt16.reduceToNat, UInt8.reduceToNat, Int.reduceAdd, Int.reduceSub, Int.reduceMul, Nat.reduceMul, Qp0, Ql0, Qe0]
  refine hC.out.mono ?_
  rintro v hz ⟨rfl, rfl⟩
  simp -dsimp -implicitDefEqProofs (disch := first | omega | assumption | (simp only [Option.isSome_some, Qt0]; done) | (simp only [UInt64.reduceToNat, UInt32.reduceToNat, UInt8.reduceToNat, List.length_cons, List.length_nil, List.length_append, Int.toNat_natCast] <;> omega)) only [Nat.reduceLT, Nat.reduceLeDiff, Nat.reduceEqDiff, ↓reduceIte, Int.reduceLT, Int.reduceLE, Int.reduceToNat, Int.reduceEq, Int.reduceNe, Nat.reduceAdd, UInt8.reduceOfNat, UInt16.reduceOfNat, UInt32.reduceOfNat, UInt64.reduceOfNat, UInt64.reduceToNat, UInt32.reduceToNat, UInt16.reduceToNat, UInt8.reduceToNat, Int.reduceAdd, Int.reduceSub, Int.reduceMul, Nat.reduceMul, Qp0, Ql0, Qe0]
  refine hE.out.mono ?_
  rintro v hz ⟨be, rfl, hbe, rfl⟩
  simp -dsimp -implicitDefEqProofs (disch := first | omega | assumption | (simp only [Option.isSome_some, Qt0]; done) | (simp only [UInt64.reduceToNat, UInt32.reduceToNat, UInt8.reduceToNat, List.length_cons, List.length_nil, List.length_append, Int.toNat_natCast] <;> omega)) only [Nat.reduceLT, Nat.reduceLeDiff, Nat.reduceEqDiff, ↓reduceIte, Int.reduceLT, Int.reduceLE, Int.reduceToNat, Int.reduceEq, Int.reduceNe, Nat.reduceAdd, UInt8.reduceOfNat, UInt16.reduceOfNat, UInt32.reduceOfNat, UInt64.reduceOfNat, UInt64.reduceToNat, UInt32.reduceToNat, UInt16.reduceToNat, UInt8.reduceToNat, Int.reduceAdd, Int.reduceSub, Int.reduceMul, Nat.reduceMul, Qp0, Ql0, Qe0]
  exact ⟨_, PH.Le.refl _, be, rfl, hbe, rfl⟩
set_option maxRecDepth 20000 in
theorem key_nil : PCalls Try.prog w0 25 [.pointer none, .int .i64 n] h fun v h' => ∃ be, v = .tuple #[str [], errV be] ∧ h.top ≤ be ∧ h' = h.new be ⟨[str ringT, .int .i64 0, codeV 9], 3⟩ := by
  refine PCalls_body Try.func25 (by kernel_rfl) rfl _ Try.ntmps25 (by kernel_rfl) (by kernel_rfl) _ Try.results25 ?_
  have hA := Lib.hid (alive_nil n w0 h)
  have hC := Lib.hid (current_nil w0 h)
  have hE := Lib.hid (@at_ev ringT 0 (.code 9) _ w0 h rfl)
  simp -dsimp -implicitDefEqProofs (disch := first | omega | assumption | (simp only [Option.isSome_some, Qt0]; done) | (simp only [UInt64.reduceToNat, UInt32.reduceToNat, UInt8.reduceToNat, List.length_cons, List.length_nil, List.length_append, Int.toNat_natCast] <;> omega)) only [Nat.reduceLT, Nat.reduceLeDiff, Nat.reduceEqDiff, ↓reduceIte, Int.reduceLT, Int.reduceLE, Int.reduceToNat, Int.reduceEq, Int.reduceNe, Nat.reduceAdd, UInt8.reduceOfNat, UInt16.reduceOfNat, UInt32.reduceOfNat, UInt64.reduceOfNat, UInt64.reduceToNat, UInt32.reduceToNat, UInt16.reduceToNat, UInt8.reduceToNat, Int.reduceAdd, Int.reduceSub, Int.reduceMul, Nat.reduceMul, Qp0, Ql0, Qe0]
  refine hA.out.mono ?_
  rintro v hz ⟨rfl, rfl⟩
  simp -dsimp -implicitDefEqProofs (disch := first | omega | assumption | (simp only [Option.isSome_some, Qt0]; done) | (simp only [UInt64.reduceToNat, UInt32.reduceToNat, UInt8.reduceToNat, List.length_cons, List.length_nil, List.length_append, Int.toNat_natCast] <;> omega)) only [Nat.reduceLT, Nat.reduceLeDiff, Nat.reduceEqDiff, ↓reduceIte, Int.reduceLT, Int.reduceLE, Int.reduceToNat, Int.reduceEq, Int.reduceNe, Nat.reduceAdd, UInt8.reduceOfNat, UInt16.reduceOfNat, UInt32.reduceOfNat, UInt64.reduceOfNat, UInt64.reduceToNat, UInt32.reduceToNat, UInt16.reduceToNat, UInt8.reduceToNat, Int.reduceAdd, Int.reduceSub, Int.reduceMul, Nat.reduceMul, Qp0, Ql0, Qe0]
  refine hC.out.mono ?_
  rintro v hz ⟨rfl, rfl⟩
  simp -dsimp -implicitDefEqProofs (disch := first | omega | assumption | (simp only [Option.isSome_some, Qt0]; done) | (simp only [UInt64.reduceToNat, UInt32.reduceToNat, UInt8.reduceToNat, List.length_cons, List.length_nil, List.length_append, Int.toNat_natCast] <;> omega)) only [Nat.reduceLT, Nat.reduceLeDiff, Nat.reduceEqDiff, ↓reduceIte, Int.reduceLT, Int.reduceLE, Int.reduceToNat, Int.reduceEq, Int.reduceNe, Nat.reduceAdd, UInt8.reduceOfNat, UInt16.reduceOfNat, UInt32.reduceOfNat, UInt64.reduceOfNat, UInt64.reduceToNat, UInt32.reduceToNat, UInt16.reduceToNat, UInt8.reduceToNat, Int.reduceAdd, Int.reduceSub, Int.reduceMul, Nat.reduceMul, Qp0, Ql0, Qe0]
  refine hE.out.mono ?_
  rintro v hz ⟨be, rfl, hbe, rfl⟩
  simp -dsimp -implicitDefEqProofs (disch := first | omega | assumption | (simp only [Option.isSome_some, Qt0]; done) | (simp only [UInt64.reduceToNat, UInt32.reduceToNat, UInt8.reduceToNat, List.length_cons, List.length_nil, List.length_append, Int.toNat_natCast] <;> omega)) only [Nat.reduceLT, Nat.reduceLeDiff, Nat.reduceEqDiff, ↓reduceIte, Int.reduceLT, Int.reduceLE, Int.reduceToNat, Int.reduceEq, Int.reduceNe, Nat.reduceAdd, UInt8.reduceOfNat, UInt16.reduceOfNat, UInt32.reduceOfNat, UInt64.reduceOfNat, UInt64.reduceToNat, UInt32.reduceToNat, UInt16.reduceToNat, UInt8.reduceToNat, Int.reduceAdd, Int.reduceSub, Int.reduceMul, Nat.reduceMul, Qp0, Ql0, Qe0]
  exact ⟨_, PH.Le.refl _, be, rfl, hbe, rfl⟩
end
end Go.Proofs.Ytdlaoeepeakpeaa


/- Texts as letters, as plain functions on lists of bytes: what a text's letters are, which bytes a cookie may hold. No condition. -/
namespace Go.Proofs.Ytdlaoeepeakpeaa.Tx
set_option linter.unusedVariables false
set_option linter.unusedSimpArgs false
def letters : List UInt8 := [65, 66, 67, 68, 69, 70, 71, 72, 73, 74, 75, 76, 77, 78, 79, 80, 81, 82, 83, 84, 85, 86, 87, 88, 89, 90, 97, 98, 99, 100, 101, 102, 103, 104, 105, 106, 107, 108, 109, 110, 111, 112, 113, 114, 115, 116, 117, 118, 119, 120, 121, 122, 48, 49, 50, 51, 52, 53, 54, 55, 56, 57, 45, 95]
def let64 (n : UInt32) : UInt8 := letters.getD (n >>> 18 &&& 63).toNat 0
def sh6 (n : UInt32) : Nat → UInt32
  | 0 => n
  | i + 1 => sh6 n i <<< 6
def lets (n : UInt32) : Nat → List UInt8
  | 0 => []
  | i + 1 => lets n i ++ [let64 (sh6 n i)]
theorem lets_length (n : UInt32) (i : Nat) : (lets n i).length = i := by
  induction i with
  | zero => rfl
  | succ i ih => simp [lets, ih]
/-- Up to three bytes as a number, the first one highest. -/
def num3 (a b c : UInt32) : UInt32 := ((((0 : UInt32) <<< 8 ||| a) <<< 8) ||| b) <<< 8 ||| c
def enc : List UInt8 → List UInt8
  | [] => []
  | [a] => lets (((((0 : UInt32) <<< 8 ||| a.toUInt32) <<< 8)) <<< 8) 2
  | [a, b] => lets (((((0 : UInt32) <<< 8 ||| a.toUInt32) <<< 8) ||| b.toUInt32) <<< 8) 3
  | a :: b :: c :: t => lets (num3 a.toUInt32 b.toUInt32 c.toUInt32) 4 ++ enc t
theorem enc_length (l : List UInt8) : (enc l).length ≤ 2 * l.length + 4 := by
  fun_induction enc l with
  | case1 => simp
  | case2 a => simp [lets_length]
  | case3 a b => simp [lets_length]
  | case4 a b c t ih => simp [lets_length]; omega
theorem and63 (x : UInt32) : (x &&& 63).toNat < letters.length := by
  have : (x &&& 63).toNat ≤ 63 := by rw [UInt32.toNat_and]; exact Nat.and_le_right
  show _ < 64
  omega
theorem take_snoc8 (s : List UInt8) (k : Nat) (h : k < s.length) : s.take (k + 1) = s.take k ++ [s.getD k 0] := by
  rw [List.take_add_one, List.getElem?_eq_getElem h]; simp [List.getD, List.getElem?_eq_getElem h]
def marks : List UInt8 := [33, 35, 36, 37, 38, 39, 42, 43, 45, 46, 94, 95, 96, 124, 126]
def tokc (c : UInt8) : Bool := (decide (97 ≤ c) && decide (c ≤ 122)) || (decide (65 ≤ c) && decide (c ≤ 90)) || (decide (48 ≤ c) && decide (c ≤ 57)) || decide (0 ≤ Lib.indexByte marks c)
def token (s : List UInt8) : Bool := s.all tokc && decide (s ≠ [])
def idx (c : UInt8) : Int := Lib.indexByte letters c
def nums (s : List UInt8) : List UInt32 := s.map fun c => UInt32.ofInt (idx c)
def two (a b : UInt32) : UInt8 := (a <<< 2 ||| b >>> 4).toUInt8
def three (b c : UInt32) : UInt8 := (b <<< 4 ||| c >>> 2).toUInt8
def four (a b c d : UInt32) : UInt32 := a <<< 18 ||| b <<< 12 ||| c <<< 6 ||| d
/-- The bytes of letters, where these are right. -/
def decN : List UInt32 → Option (List UInt8)
  | a :: b :: c :: d :: t => (decN t).map fun o => (four a b c d >>> 16).toUInt8 :: (four a b c d >>> 8).toUInt8 :: (four a b c d).toUInt8 :: o
  | [a, b, c] => if c &&& 3 = 0 then some [two a b, three b c] else none
  | [a, b] => if b &&& 15 = 0 then some [two a b] else none
  | [_] => none
  | [] => some []
end Go.Proofs.Ytdlaoeepeakpeaa.Tx


/- What a text's letters decode to: the text. No condition. -/
namespace Go.Proofs.Ytdlaoeepeakpeaa.Tx
set_option linter.unusedVariables false
set_option linter.unusedSimpArgs false
theorem idx_at : ∀ i, i < 64 → idx (letters.getD i 0) = i := by decide +kernel
theorem and63n (x : UInt32) : (x &&& 63).toNat = x.toNat % 64 := by
  rw [UInt32.toNat_and]; exact Nat.and_two_pow_sub_one_eq_mod x.toNat 6
def piece (n : UInt32) : UInt32 := n >>> 18 &&& 63
theorem idx_let (n : UInt32) : idx (let64 n) = (piece n).toNat := by
  unfold let64 piece
  rw [idx_at _ (by rw [and63n]; omega)]
theorem ofInt_toNat (x : UInt32) : UInt32.ofInt (x.toNat : Int) = x := by
  apply UInt32.toNat_inj.1
  have := x.toNat_lt
  simp [UInt32.ofInt]
  omega
theorem nums_let (n : UInt32) : UInt32.ofInt (idx (let64 n)) = piece n := by rw [idx_let, ofInt_toNat]
theorem piece_toNat (n : UInt32) : (piece n).toNat = n.toNat / 262144 % 64 := by
  unfold piece; rw [and63n, UInt32.toNat_shiftRight]; simp [Nat.shiftRight_eq_div_pow]
theorem shl6_toNat (n : UInt32) : (n <<< 6).toNat = n.toNat * 64 % 4294967296 := by
  rw [UInt32.toNat_shiftLeft]; simp [Nat.shiftLeft_eq]
theorem orAdd (X Y k q : Nat) (hX : X = 2 ^ k * q) (hY : Y < 2 ^ k) : X ||| Y = X + Y := by
  subst hX; rw [Nat.two_pow_add_eq_or_of_lt hY]
theorem four_toNat (a b c d : UInt32) (ha : a.toNat < 64) (hb : b.toNat < 64) (hc : c.toNat < 64) (hd : d.toNat < 64) : (four a b c d).toNat = a.toNat * 262144 + b.toNat * 4096 + c.toNat * 64 + d.toNat := by
  unfold four
  simp only [UInt32.toNat_or, UInt32.toNat_shiftLeft, UInt32.reduceToNat, Nat.reduceMod, Nat.shiftLeft_eq, Nat.reducePow]
  rw [Nat.mod_eq_of_lt (show a.toNat * 262144 < 4294967296 by omega), Nat.mod_eq_of_lt (show b.toNat * 4096 < 4294967296 by omega), Nat.mod_eq_of_lt (show c.toNat * 64 < 4294967296 by omega)]
  rw [orAdd (a.toNat * 262144) (b.toNat * 4096) 18 a.toNat (by omega) (by omega), orAdd (a.toNat * 262144 + b.toNat * 4096) (c.toNat * 64) 12 (a.toNat * 64 + b.toNat) (by omega) (by omega), orAdd (a.toNat * 262144 + b.toNat * 4096 + c.toNat * 64) d.toNat 6 (a.toNat * 4096 + b.toNat * 64 + c.toNat) (by omega) (by omega)]
theorem or8 (x : UInt32) (c : UInt8) (hx : x.toNat < 16777216) : (x <<< 8 ||| c.toUInt32).toNat = x.toNat * 256 + c.toNat := by
  have hc := c.toNat_lt
  simp only [UInt32.toNat_or, UInt32.toNat_shiftLeft, UInt32.reduceToNat, Nat.reduceMod, Nat.shiftLeft_eq, Nat.reducePow, UInt8.toNat_toUInt32]
  rw [Nat.mod_eq_of_lt (show x.toNat * 256 < 4294967296 by omega), orAdd _ _ 8 x.toNat (by omega) (by omega)]
theorem zero8 (a : UInt8) : ((0 : UInt32) <<< 8 ||| a.toUInt32).toNat = a.toNat := by rw [or8 0 a (by decide)]; simp
theorem shl8 (x : UInt32) (hx : x.toNat < 16777216) : (x <<< 8).toNat = x.toNat * 256 := by
  rw [UInt32.toNat_shiftLeft]; simp [Nat.shiftLeft_eq]; omega
theorem back8 (x : UInt32) (k : Nat) (hk : k < 32) (c : UInt8) (h : x.toNat / 2 ^ k % 256 = c.toNat) : (x >>> UInt32.ofNat k).toUInt8 = c := by
  apply UInt8.toNat_inj.1
  rw [UInt32.toNat_toUInt8, UInt32.toNat_shiftRight, UInt32.toNat_ofNat', Nat.shiftRight_eq_div_pow, ← h]
  rw [Nat.mod_eq_of_lt (show k % 2 ^ 32 < 32 by omega), Nat.mod_eq_of_lt (show k < 2 ^ 32 by omega)]
theorem back8' (x : UInt32) (c : UInt8) (h : x.toNat % 256 = c.toNat) : x.toUInt8 = c := by
  apply UInt8.toNat_inj.1
  rw [UInt32.toNat_toUInt8, ← h]
theorem four_num (n : UInt32) (hn : n.toNat < 16777216) : (four (piece n) (piece (n <<< 6)) (piece (n <<< 6 <<< 6)) (piece (n <<< 6 <<< 6 <<< 6))).toNat = n.toNat := by
  have p0 := piece_toNat n
  have p1 := piece_toNat (n <<< 6)
  have p2 := piece_toNat (n <<< 6 <<< 6)
  have p3 := piece_toNat (n <<< 6 <<< 6 <<< 6)
  rw [shl6_toNat] at p1
  rw [shl6_toNat, shl6_toNat] at p2
  rw [shl6_toNat, shl6_toNat, shl6_toNat] at p3
  rw [four_toNat _ _ _ _ (by omega) (by omega) (by omega) (by omega), p0, p1, p2, p3]
  generalize n.toNat = m at *
  clear p0 p1 p2 p3
  omega
theorem dec_enc (s : List UInt8) : decN (nums (enc s)) = some s := by
  fun_induction enc s with
  | case1 => rfl
  | case2 a =>
    have ha := a.toNat_lt
    have e1 := zero8 a
    generalize (0 : UInt32) <<< 8 ||| a.toUInt32 = m at *
    have e2 := shl8 m (by omega)
    have e3 := shl8 (m <<< 8) (by omega)
    generalize m <<< 8 <<< 8 = n at *
    have p0 := piece_toNat n
    have p1 := piece_toNat (n <<< 6)
    rw [shl6_toNat] at p1
    simp only [lets, nums, List.map_append, List.map_cons, List.map_nil, List.nil_append, List.cons_append, nums_let, sh6, decN]
    have hz : piece (n <<< 6) &&& 15 = 0 := by
      apply UInt32.toNat_inj.1
      rw [UInt32.toNat_and]
      have := Nat.and_two_pow_sub_one_eq_mod (piece (n <<< 6)).toNat 4
      simp at this ⊢
      rw [this]; omega
    rw [if_pos hz]
    have h2 : two (piece n) (piece (n <<< 6)) = a := by
      unfold two
      apply UInt8.toNat_inj.1
      rw [UInt32.toNat_toUInt8, UInt32.toNat_or, UInt32.toNat_shiftLeft, UInt32.toNat_shiftRight]
      simp [Nat.shiftLeft_eq, Nat.shiftRight_eq_div_pow]
      rw [Nat.mod_eq_of_lt (show (piece n).toNat * 4 < 4294967296 by omega), orAdd _ _ 2 (piece n).toNat (by omega) (by omega)]
      omega
    rw [h2]
  | case3 a b =>
    have ha := a.toNat_lt
    have hb := b.toNat_lt
    have e1 : ((((0 : UInt32) <<< 8 ||| a.toUInt32) <<< 8) ||| b.toUInt32).toNat = a.toNat * 256 + b.toNat := by rw [or8 _ _ (by rw [zero8]; omega), zero8]
    generalize (((0 : UInt32) <<< 8 ||| a.toUInt32) <<< 8) ||| b.toUInt32 = m at *
    have e2 := shl8 m (by omega)
    generalize m <<< 8 = n at *
    have p0 := piece_toNat n
    have p1 := piece_toNat (n <<< 6)
    have p2 := piece_toNat (n <<< 6 <<< 6)
    rw [shl6_toNat] at p1
    rw [shl6_toNat, shl6_toNat] at p2
    simp only [lets, nums, List.map_append, List.map_cons, List.map_nil, List.nil_append, List.cons_append, nums_let, sh6, decN]
    have hz : piece (n <<< 6 <<< 6) &&& 3 = 0 := by
      apply UInt32.toNat_inj.1
      rw [UInt32.toNat_and]
      have := Nat.and_two_pow_sub_one_eq_mod (piece (n <<< 6 <<< 6)).toNat 2
      simp at this ⊢
      rw [this]; omega
    rw [if_pos hz]
    have h2 : two (piece n) (piece (n <<< 6)) = a := by
      unfold two
      apply UInt8.toNat_inj.1
      rw [UInt32.toNat_toUInt8, UInt32.toNat_or, UInt32.toNat_shiftLeft, UInt32.toNat_shiftRight]
      simp [Nat.shiftLeft_eq, Nat.shiftRight_eq_div_pow]
      rw [Nat.mod_eq_of_lt (show (piece n).toNat * 4 < 4294967296 by omega), orAdd _ _ 2 (piece n).toNat (by omega) (by omega)]
      omega
    have h3 : three (piece (n <<< 6)) (piece (n <<< 6 <<< 6)) = b := by
      unfold three
      apply UInt8.toNat_inj.1
      rw [UInt32.toNat_toUInt8, UInt32.toNat_or, UInt32.toNat_shiftLeft, UInt32.toNat_shiftRight]
      simp [Nat.shiftLeft_eq, Nat.shiftRight_eq_div_pow]
      rw [Nat.mod_eq_of_lt (show (piece (n <<< 6)).toNat * 16 < 4294967296 by omega), orAdd _ _ 4 (piece (n <<< 6)).toNat (by omega) (by omega)]
      omega
    rw [h2, h3]
  | case4 a b c t ih =>
    have ha := a.toNat_lt
    have hb := b.toNat_lt
    have hc := c.toNat_lt
    have hab : ((((0 : UInt32) <<< 8 ||| a.toUInt32) <<< 8) ||| b.toUInt32).toNat = a.toNat * 256 + b.toNat := by rw [or8 _ _ (by rw [zero8]; omega), zero8]
    have hn : (num3 a.toUInt32 b.toUInt32 c.toUInt32).toNat = (a.toNat * 256 + b.toNat) * 256 + c.toNat := by
      unfold num3; rw [or8 _ _ (by rw [hab]; omega), hab]
    have h4 := four_num (num3 a.toUInt32 b.toUInt32 c.toUInt32) (by omega)
    rw [hn] at h4
    generalize num3 a.toUInt32 b.toUInt32 c.toUInt32 = n at *
    simp only [lets, nums, List.map_append, List.map_cons, List.map_nil, List.nil_append, List.cons_append, nums_let, sh6, decN]
    rw [show (List.map (fun c => UInt32.ofInt (idx c)) (enc t)) = nums (enc t) from rfl, ih]
    simp only [Option.map_some]
    have q1 := back8 _ 16 (by omega) a (show _ = _ by rw [h4]; omega)
    have q2 := back8 _ 8 (by omega) b (show _ = _ by rw [h4]; omega)
    have q3 := back8' _ c (show _ = _ by rw [h4]; omega)
    simp only [UInt32.reduceOfNat] at q1 q2
    rw [q1, q2, q3]
end Go.Proofs.Ytdlaoeepeakpeaa.Tx


/- The document's letters by bits are text's letters: plain facts. No condition. -/
namespace Go.Proofs.Ytdlaoeepeakpeaa.Tx
set_option linter.unusedVariables false
set_option linter.unusedSimpArgs false
def letAt (x : Int) : UInt8 := letters.getD x.toNat 0
theorem let64_eq (n : UInt32) (x : Int) (h : x = ((n.toNat / 262144 % 64 : Nat) : Int)) : letAt x = let64 n := by
  subst h
  unfold letAt let64
  rw [show (n >>> 18 &&& 63).toNat = n.toNat / 262144 % 64 from piece_toNat n, Int.toNat_natCast]
set_option maxRecDepth 4000 in
theorem n3 (a b c : UInt8) : (num3 a.toUInt32 b.toUInt32 c.toUInt32).toNat = a.toNat * 65536 + b.toNat * 256 + c.toNat := by
  have ha := a.toNat_lt
  have hb := b.toNat_lt
  unfold num3
  have e1 := zero8 a
  have e2 := or8 ((0 : UInt32) <<< 8 ||| a.toUInt32) b (by omega)
  have e3 := or8 (((0 : UInt32) <<< 8 ||| a.toUInt32) <<< 8 ||| b.toUInt32) c (by omega)
  omega
theorem lets4 (n : UInt32) : lets n 4 = [let64 n, let64 (n <<< 6), let64 (n <<< 6 <<< 6), let64 (n <<< 6 <<< 6 <<< 6)] := rfl
theorem lets3 (n : UInt32) : lets n 3 = [let64 n, let64 (n <<< 6), let64 (n <<< 6 <<< 6)] := rfl
theorem lets2 (n : UInt32) : lets n 2 = [let64 n, let64 (n <<< 6)] := rfl
theorem idx_enc (s : List UInt8) : ∀ c ∈ enc s, 0 ≤ idx c := by
  have hl : ∀ (n : UInt32) (i : Nat), ∀ c ∈ lets n i, 0 ≤ idx c := by
    intro n i
    induction i with
    | zero => intro c hc; cases hc
    | succ i ih =>
      intro c hc
      rcases List.mem_append.1 hc with h | h
      · exact ih c h
      · rw [List.mem_singleton.1 h, idx_let]; omega
  fun_induction enc s with
  | case1 => intro c hc; cases hc
  | case2 a => exact hl _ _
  | case3 a b => exact hl _ _
  | case4 a b c t ih =>
    intro x hx
    rcases List.mem_append.1 hx with h | h
    · exact hl _ _ x h
    · exact ih x h
end Go.Proofs.Ytdlaoeepeakpeaa.Tx


/- The document's bytes of letters, bit by bit, are text's: plain facts. No condition. -/
namespace Go.Proofs.Ytdlaoeepeakpeaa.Tx
set_option linter.unusedVariables false
set_option linter.unusedSimpArgs false
def b6 (n : Int) (j : Nat) : Int := n / 2 ^ j % 2
theorem byAll {p : UInt8 → Prop} (h : ∀ n, n < 256 → p (UInt8.ofNat n)) (c : UInt8) : p c := by
  have := h c.toNat c.toNat_lt
  rwa [UInt8.ofNat_toNat] at this
theorem idx_lt (c : UInt8) : idx c < 64 := byAll (p := fun c => idx c < 64) (by decide +kernel) c
theorem letters_idx (c : UInt8) : 0 ≤ idx c → letters.getD (idx c).toNat 0 = c := byAll (p := fun c => 0 ≤ idx c → letters.getD (idx c).toNat 0 = c) (by decide +kernel) c
theorem u32_idx {n : Int} (h0 : 0 ≤ n) (h1 : n < 64) : ((UInt32.ofInt n).toNat : Int) = n := by
  simp [UInt32.ofInt]; omega
end Go.Proofs.Ytdlaoeepeakpeaa.Tx


/- What is read as letters has just these letters: plain facts. No condition. -/
namespace Go.Proofs.Ytdlaoeepeakpeaa.Tx
set_option linter.unusedVariables false
set_option linter.unusedSimpArgs false
theorem m16 (a : Nat) : a * 256 * 256 = a * 65536 := by omega
theorem m24 (a b : Nat) : (a * 256 + b) * 256 = a * 65536 + b * 256 := by omega
theorem let_of (n : UInt32) (c : UInt8) (hc : 0 ≤ idx c) (h : ((n.toNat / 262144 % 64 : Nat) : Int) = idx c) : let64 n = c := by
  rw [← let64_eq n (idx c) h.symm]
  exact letters_idx c hc
theorem two_num (a b : Int) (ha : 0 ≤ a ∧ a < 64) (hb : 0 ≤ b ∧ b < 64) : ((two (UInt32.ofInt a) (UInt32.ofInt b)).toNat : Int) = a * 4 + b / 16 := by
  obtain ⟨n, rfl⟩ := Int.eq_ofNat_of_zero_le ha.1
  obtain ⟨m, rfl⟩ := Int.eq_ofNat_of_zero_le hb.1
  have hn : n < 64 := by omega
  have hm : m < 64 := by omega
  clear ha hb
  revert hm; revert m; revert hn; revert n
  decide +kernel
theorem three_num (a b : Int) (ha : 0 ≤ a ∧ a < 64) (hb : 0 ≤ b ∧ b < 64) : ((three (UInt32.ofInt a) (UInt32.ofInt b)).toNat : Int) = a % 16 * 16 + b / 4 := by
  obtain ⟨n, rfl⟩ := Int.eq_ofNat_of_zero_le ha.1
  obtain ⟨m, rfl⟩ := Int.eq_ofNat_of_zero_le hb.1
  have hn : n < 64 := by omega
  have hm : m < 64 := by omega
  clear ha hb
  revert hm; revert m; revert hn; revert n
  decide +kernel
theorem and4 (b : Int) (hb : 0 ≤ b ∧ b < 64) : (UInt32.ofInt b &&& 15 = 0) ↔ b % 16 = 0 := by
  obtain ⟨m, rfl⟩ := Int.eq_ofNat_of_zero_le hb.1
  have hm : m < 64 := by omega
  clear hb
  revert m
  decide +kernel
theorem and2 (b : Int) (hb : 0 ≤ b ∧ b < 64) : (UInt32.ofInt b &&& 3 = 0) ↔ b % 4 = 0 := by
  obtain ⟨m, rfl⟩ := Int.eq_ofNat_of_zero_le hb.1
  have hm : m < 64 := by omega
  clear hb
  revert m
  decide +kernel
theorem enc_dec : ∀ (s out : List UInt8), (∀ c ∈ s, 0 ≤ idx c) → decN (nums s) = some out → enc out = s
  | [], out, _, h => by
    have : out = [] := by simpa [nums, decN] using h.symm
    subst this; rfl
  | [a], out, _, h => by simp [nums, decN] at h
  | [a, b], out, hg, h => by
    have ha := hg a (by simp)
    have hb := hg b (by simp)
    have ha2 := idx_lt a
    have hb2 := idx_lt b
    have h4 := and4 (idx b) ⟨hb, hb2⟩
    have ht := two_num (idx a) (idx b) ⟨ha, ha2⟩ ⟨hb, hb2⟩
    simp only [nums, List.map_cons, List.map_nil, decN, h4] at h
    by_cases hz : idx b % 16 = 0
    · rw [if_pos hz] at h
      obtain rfl := Option.some.inj h
      generalize two (UInt32.ofInt (idx a)) (UInt32.ofInt (idx b)) = x at ht
      have hx := x.toNat_lt
      have e1 := zero8 x
      have e2 := shl8 _ (show ((0 : UInt32) <<< 8 ||| x.toUInt32).toNat < 16777216 by omega)
      have e3 := shl8 _ (show (((0 : UInt32) <<< 8 ||| x.toUInt32) <<< 8).toNat < 16777216 by omega)
      simp only [enc, lets2]
      rw [e2, e1] at e3
      clear e1 e2 h4 hg
      generalize ((0 : UInt32) <<< 8 ||| x.toUInt32) <<< 8 <<< 8 = F at e3 ⊢
      have hF : F.toNat = x.toNat * 65536 := e3.trans (m16 _)
      rw [let_of F a ha (by rw [hF]; omega), let_of (F <<< 6) b hb (by rw [shl6_toNat, hF]; omega)]
    · rw [if_neg hz] at h; cases h
  | [a, b, c], out, hg, h => by
    have ha := hg a (by simp)
    have hb := hg b (by simp)
    have hc := hg c (by simp)
    have ha2 := idx_lt a
    have hb2 := idx_lt b
    have hc2 := idx_lt c
    have h4 := and2 (idx c) ⟨hc, hc2⟩
    have ht := two_num (idx a) (idx b) ⟨ha, ha2⟩ ⟨hb, hb2⟩
    have ht3 := three_num (idx b) (idx c) ⟨hb, hb2⟩ ⟨hc, hc2⟩
    simp only [nums, List.map_cons, List.map_nil, decN, h4] at h
    by_cases hz : idx c % 4 = 0
    · rw [if_pos hz] at h
      obtain rfl := Option.some.inj h
      generalize two (UInt32.ofInt (idx a)) (UInt32.ofInt (idx b)) = x at ht
      generalize three (UInt32.ofInt (idx b)) (UInt32.ofInt (idx c)) = y at ht3
      have hx := x.toNat_lt
      have hy := y.toNat_lt
      have e1 := zero8 x
      have e2 := or8 ((0 : UInt32) <<< 8 ||| x.toUInt32) y (by omega)
      have e3 := shl8 _ (show (((0 : UInt32) <<< 8 ||| x.toUInt32) <<< 8 ||| y.toUInt32).toNat < 16777216 by omega)
      simp only [enc, lets3]
      rw [e2, e1] at e3
      clear e1 e2 h4 hg
      generalize (((0 : UInt32) <<< 8 ||| x.toUInt32) <<< 8 ||| y.toUInt32) <<< 8 = F at e3 ⊢
      have hF : F.toNat = x.toNat * 65536 + y.toNat * 256 := e3.trans (m24 _ _)
      rw [let_of F a ha (by rw [hF]; omega), let_of (F <<< 6) b hb (by rw [shl6_toNat, hF]; omega), let_of (F <<< 6 <<< 6) c hc (by rw [shl6_toNat, shl6_toNat, hF]; omega)]
    · rw [if_neg hz] at h; cases h
  | a :: b :: c :: d :: t, out, hg, h => by
    have ha := hg a (by simp)
    have hb := hg b (by simp)
    have hc := hg c (by simp)
    have hd := hg d (by simp)
    have ha2 := idx_lt a
    have hb2 := idx_lt b
    have hc2 := idx_lt c
    have hd2 := idx_lt d
    have hn : nums (a :: b :: c :: d :: t) = UInt32.ofInt (idx a) :: UInt32.ofInt (idx b) :: UInt32.ofInt (idx c) :: UInt32.ofInt (idx d) :: nums t := rfl
    rw [hn] at h
    simp only [decN] at h
    obtain ⟨o, ho, rfl⟩ := Option.map_eq_some_iff.1 h
    have ih := enc_dec t o (fun x hx => hg x (by simp [hx])) ho
    have e1 := u32_idx ha ha2
    have e2 := u32_idx hb hb2
    have e3 := u32_idx hc hc2
    have e4 := u32_idx hd hd2
    have hf := four_toNat (UInt32.ofInt (idx a)) (UInt32.ofInt (idx b)) (UInt32.ofInt (idx c)) (UInt32.ofInt (idx d)) (by omega) (by omega) (by omega) (by omega)
    generalize four (UInt32.ofInt (idx a)) (UInt32.ofInt (idx b)) (UInt32.ofInt (idx c)) (UInt32.ofInt (idx d)) = F at hf
    have hF : (F.toNat : Int) = idx a * 262144 + idx b * 4096 + idx c * 64 + idx d := by omega
    have t1 : ((F >>> 16).toUInt8).toNat = F.toNat / 65536 % 256 := by
      rw [UInt32.toNat_toUInt8, UInt32.toNat_shiftRight]; simp [Nat.shiftRight_eq_div_pow]
    have t2 : ((F >>> 8).toUInt8).toNat = F.toNat / 256 % 256 := by
      rw [UInt32.toNat_toUInt8, UInt32.toNat_shiftRight]; simp [Nat.shiftRight_eq_div_pow]
    have t3 : (F.toUInt8).toNat = F.toNat % 256 := by
      rw [UInt32.toNat_toUInt8]
    generalize (F >>> 16).toUInt8 = x at t1
    generalize (F >>> 8).toUInt8 = y at t2
    generalize F.toUInt8 = z at t3
    have hN := n3 x y z
    simp only [enc, lets4, ih]
    generalize num3 x.toUInt32 y.toUInt32 z.toUInt32 = M at hN
    have hM : (M.toNat : Int) = idx a * 262144 + idx b * 4096 + idx c * 64 + idx d := by omega
    rw [let_of M a ha (by omega), let_of (M <<< 6) b hb (by rw [shl6_toNat]; omega), let_of (M <<< 6 <<< 6) c hc (by rw [shl6_toNat, shl6_toNat]; omega), let_of (M <<< 6 <<< 6 <<< 6) d hd (by rw [shl6_toNat, shl6_toNat, shl6_toNat]; omega)]
    rfl
theorem decN_len : ∀ (n : List UInt32) (out : List UInt8), decN n = some out → out.length ≤ n.length
  | [], out, h => by simp [decN] at h; subst h; simp
  | [a], out, h => by simp [decN] at h
  | [a, b], out, h => by
    simp only [decN] at h
    split at h
    · obtain rfl := Option.some.inj h; simp
    · cases h
  | [a, b, c], out, h => by
    simp only [decN] at h
    split at h
    · obtain rfl := Option.some.inj h; simp
    · cases h
  | a :: b :: c :: d :: t, out, h => by
    simp only [decN] at h
    obtain ⟨o, ho, rfl⟩ := Option.map_eq_some_iff.1 h
    have := decN_len t o ho
    simp; omega
end Go.Proofs.Ytdlaoeepeakpeaa.Tx


/- Walks of strings.IndexByte and of text.Token. -/
namespace Go.Proofs.Ytdlaoeepeakpeaa
set_option linter.unusedVariables false
set_option linter.unusedSimpArgs false
open Go.RowKit Px Tx
theorem bytealg_any (l : List UInt8) (c : UInt8) (w0 : World) (h : PH) :
    PCalls Try.prog w0 86 [str l, u8 c] h fun v h' => v = .int .i64 (Lib.indexByte l c) ∧ h' = h := by
  refine PCalls_value (.int .i64 (Lib.indexByte l c)) (fun w => ?_) ⟨rfl, rfl⟩
  rw [@run_callFunc_extern Try.prog 86 _ Extern.BytealgIndexByte.indexByte Try.func86 (by kernel_rfl) (by kernel_rfl) (by kernel_rfl) (by kernel_rfl)]
  have := Lib.run_indexByteString (P := Try.prog) ⟨l.toArray⟩ c.toNat w
  unfold str u8
  simp [this]
theorem index_lite (l : List UInt8) (c : UInt8) (w0 : World) (h : PH) :
    PCalls Try.prog w0 77 [str l, u8 c] h fun v h' => v = .int .i64 (Lib.indexByte l c) ∧ h' = h := by
  refine PCalls_body Try.func77 (by kernel_rfl) rfl _ Try.ntmps77 (by kernel_rfl) (by kernel_rfl) _ Try.results77 ?_
  simp -dsimp -implicitDefEqProofs (disch := first | omega | assumption | (simp only [Option.isSome_some, Qt0]; done) | (simp only [UInt64.reduceToNat, UInt32.reduceToNat, UInt8.reduceToNat, List.length_cons, List.length_nil, List.length_append, Int.toNat_natCast] <;> omega)) only [Nat.reduceLT, Nat.reduceLeDiff, Nat.reduceEqDiff, ↓reduceIte, Int.reduceLT, Int.reduceLE, Int.reduceToNat, Int.reduceEq, Int.reduceNe, Nat.reduceAdd, UInt8.reduceOfNat, UInt16.reduceOfNat, UInt32.reduceOfNat, UInt64.reduceOfNat, UInt64.reduceToNat, UInt32.reduceToNat, UInt16.reduceToNat, UInt8.reduceToNat, Int.reduceAdd, Int.reduceSub, Int.reduceMul, Nat.reduceMul, Qp0, Ql0, Qe0]
  refine (bytealg_any l c w0 h).mono ?_
  rintro v h' ⟨rfl, rfl⟩
  simp -dsimp -implicitDefEqProofs (disch := first | omega | assumption | (simp only [Option.isSome_some, Qt0]; done) | (simp only [UInt64.reduceToNat, UInt32.reduceToNat, UInt8.reduceToNat, List.length_cons, List.length_nil, List.length_append, Int.toNat_natCast] <;> omega)) only [Nat.reduceLT, Nat.reduceLeDiff, Nat.reduceEqDiff, ↓reduceIte, Int.reduceLT, Int.reduceLE, Int.reduceToNat, Int.reduceEq, Int.reduceNe, Nat.reduceAdd, UInt8.reduceOfNat, UInt16.reduceOfNat, UInt32.reduceOfNat, UInt64.reduceOfNat, UInt64.reduceToNat, UInt32.reduceToNat, UInt16.reduceToNat, UInt8.reduceToNat, Int.reduceAdd, Int.reduceSub, Int.reduceMul, Nat.reduceMul, Qp0, Ql0, Qe0]
  exact ⟨_, PH.Le.refl _, by simp, rfl⟩
theorem index_any (l : List UInt8) (c : UInt8) (w0 : World) (h : PH) :
    PCalls Try.prog w0 59 [str l, u8 c] h fun v h' => v = .int .i64 (Lib.indexByte l c) ∧ h' = h := by
  refine PCalls_body Try.func59 (by kernel_rfl) rfl _ Try.ntmps59 (by kernel_rfl) (by kernel_rfl) _ Try.results59 ?_
  simp -dsimp -implicitDefEqProofs (disch := first | omega | assumption | (simp only [Option.isSome_some, Qt0]; done) | (simp only [UInt64.reduceToNat, UInt32.reduceToNat, UInt8.reduceToNat, List.length_cons, List.length_nil, List.length_append, Int.toNat_natCast] <;> omega)) only [Nat.reduceLT, Nat.reduceLeDiff, Nat.reduceEqDiff, ↓reduceIte, Int.reduceLT, Int.reduceLE, Int.reduceToNat, Int.reduceEq, Int.reduceNe, Nat.reduceAdd, UInt8.reduceOfNat, UInt16.reduceOfNat, UInt32.reduceOfNat, UInt64.reduceOfNat, UInt64.reduceToNat, UInt32.reduceToNat, UInt16.reduceToNat, UInt8.reduceToNat, Int.reduceAdd, Int.reduceSub, Int.reduceMul, Nat.reduceMul, Qp0, Ql0, Qe0]
  refine (index_lite l c w0 h).mono ?_
  rintro v h' ⟨rfl, rfl⟩
  simp -dsimp -implicitDefEqProofs (disch := first | omega | assumption | (simp only [Option.isSome_some, Qt0]; done) | (simp only [UInt64.reduceToNat, UInt32.reduceToNat, UInt8.reduceToNat, List.length_cons, List.length_nil, List.length_append, Int.toNat_natCast] <;> omega)) only [Nat.reduceLT, Nat.reduceLeDiff, Nat.reduceEqDiff, ↓reduceIte, Int.reduceLT, Int.reduceLE, Int.reduceToNat, Int.reduceEq, Int.reduceNe, Nat.reduceAdd, UInt8.reduceOfNat, UInt16.reduceOfNat, UInt32.reduceOfNat, UInt64.reduceOfNat, UInt64.reduceToNat, UInt32.reduceToNat, UInt16.reduceToNat, UInt8.reduceToNat, Int.reduceAdd, Int.reduceSub, Int.reduceMul, Nat.reduceMul, Qp0, Ql0, Qe0]
  exact ⟨_, PH.Le.refl _, by simp, rfl⟩
end Go.Proofs.Ytdlaoeepeakpeaa

