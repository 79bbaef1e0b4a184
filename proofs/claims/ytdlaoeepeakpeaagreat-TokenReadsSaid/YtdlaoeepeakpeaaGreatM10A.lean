/- Parts MnT, MnV, Rg, TxS, joined. No condition. -/
import Derived.Test.YtdlaoeepeakpeaaGreatM9A
import Derived.Test.YtdlaoeepeakpeaaGreatM2A
import Derived.Test.YtdlaoeepeakpeaaGreatM7A
import Derived.Lib.Bytealg
/- Walks of the program's and the reference's Tag: the MAC of a text under a key. -/
namespace Go.Proofs.YtdlaoeepeakpeaaGreat
set_option linter.unusedVariables false
set_option linter.unusedSimpArgs false
open Go.RowKit Px
/-- A key as it is taken: shorter ones as they are, longer ones by their digest; in 64 bytes. -/
def keyOf (key : List UInt8) : List UInt8 := if 64 < key.length then Sha.dig key else key
def padKey (k : List UInt8) : List UInt8 := k ++ List.replicate (64 - k.length) 0
def mixL (k : List UInt8) (c : UInt8) : List UInt8 := (padKey k).map (· ^^^ c)
def tag (key s : List UInt8) : List UInt8 := Sha.dig (mixL (keyOf key) 92 ++ Sha.dig (mixL (keyOf key) 54 ++ s))
theorem keyOf_length (key : List UInt8) : (keyOf key).length ≤ 64 := by
  unfold keyOf; split
  · rw [Sha.dig_length]; omega
  · omega
theorem padKey_length (k : List UInt8) (h : k.length ≤ 64) : (padKey k).length = 64 := by unfold padKey; simp; omega
theorem mixL_length (k : List UInt8) (c : UInt8) (h : k.length ≤ 64) : (mixL k c).length = 64 := by unfold mixL; rw [List.length_map, padKey_length k h]
theorem tag_length (key s : List UInt8) : (tag key s).length = 32 := Sha.dig_length _
/-- The first i cells mixed. -/
def mixI (p : List UInt8) (c : UInt8) (i : Nat) : List UInt8 := (p.take i).map (· ^^^ c) ++ p.drop i
theorem mixI_length (p : List UInt8) (c : UInt8) (i : Nat) : (mixI p c i).length = p.length := by simp [mixI]; omega
theorem mixI_get (p : List UInt8) (c : UInt8) (i : Nat) (h : i < p.length) : (bs (mixI p c i))[i]? = some (u8 (p.getD i 0)) := by
  have e : (mixI p c i)[i]? = some (p.getD i 0) := by
    unfold mixI
    rw [List.getElem?_append_right (by simp; omega)]
    simp [List.getD, List.getElem?_eq_getElem h, Nat.min_eq_left (Nat.le_of_lt h)]
  simp [bs, e]
theorem mixI_set (p : List UInt8) (c : UInt8) (i : Nat) (h : i < p.length) : (bs (mixI p c i)).set i (u8 (p.getD i 0 ^^^ c)) = bs (mixI p c (i + 1)) := by
  have e : mixI p c (i + 1) = (mixI p c i).set i (p.getD i 0 ^^^ c) := by
    have hl : ((p.take i).map (· ^^^ c)).length = i := by rw [List.length_map, List.length_take]; omega
    have e2 : p.drop i = p.getD i 0 :: p.drop (i + 1) := by rw [List.drop_eq_getElem_cons h]; simp [List.getD, List.getElem?_eq_getElem h]
    unfold mixI
    rw [List.set_append_right _ _ (by omega), hl, Nat.sub_self, e2, List.set_cons_zero, List.take_succ_eq_append_getElem h, List.map_append, List.append_assoc]
    simp [List.getD, List.getElem?_eq_getElem h]
  rw [e, bs, bs, List.map_set]
theorem mixI_zero (p : List UInt8) (c : UInt8) : mixI p c 0 = p := by simp [mixI]
theorem mixI_all (k : List UInt8) (c : UInt8) (h : k.length ≤ 64) : mixI (padKey k) c 64 = mixL k c := by
  have := padKey_length k h
  unfold mixI mixL
  rw [List.take_of_length_le (by omega), List.drop_of_length_le (by omega), List.append_nil]
set_option maxRecDepth 100000 in
set_option maxHeartbeats 2000000 in
theorem tag_any (key s : List UInt8) (hk : key.length ≤ 900000) (hs : s.length ≤ 900000) (w0 : World) (h : PH) : PCalls Tryz.prog w0 26 [str key, str s] h fun v h' => v = str (tag key s) ∧ h' = h := by
  refine PCalls_body Tryz.func26 (by kernel_rfl) rfl _ Tryz.ntmps26 (by kernel_rfl) (by kernel_rfl) _ Tryz.results26 ?_
  have hko := keyOf_length key
  have hD := Lib.hid (@digest_any key (by omega) w0 h)
  have hkd : 64 < key.length → keyOf key = Sha.dig key := fun e => by unfold keyOf; rw [if_pos e]
  have hks : ¬ 64 < key.length → keyOf key = key := fun e => by unfold keyOf; rw [if_neg e]
  have htg : tag key s = Sha.dig (mixL (keyOf key) 92 ++ Sha.dig (mixL (keyOf key) 54 ++ s)) := rfl
  rw [htg]
  clear htg
  generalize keyOf key = K at *
  generalize Sha.dig key = DK at *
  have hkl := padKey_length K hko
  have hmI := mixI_all K 54 hko
  have hmO := mixI_all K 92 hko
  have hlI := mixL_length K 54 hko
  have hlO := mixL_length K 92 hko
  by_cases hlt : 64 < key.length
  · have hdI : decide ((64 : Int) < (key.length : Int)) = true := decide_eq_true (by omega)
    obtain rfl := hkd hlt
    simp -dsimp -implicitDefEqProofs (disch := first | omega | assumption | (simp only [Option.isSome_some,Qt0]; done) | (simp only [UInt64.reduceToNat,UInt32.reduceToNat,UInt8.reduceToNat,List.length_cons,List.length_nil,List.length_append,Int.toNat_natCast] <;> omega)) only [Nat.reduceLT,Nat.reduceLeDiff,Nat.reduceEqDiff,↓reduceIte,Int.reduceLT,Int.reduceLE,Int.reduceToNat,Int.reduceEq,Int.reduceNe,Nat.reduceAdd,UInt8.reduceOfNat,UInt16.reduceOfNat,UInt32.reduceOfNat,UInt64.reduceOfNat,UInt64.reduceToNat,UInt32.reduceToNat,UInt16.reduceToNat,UInt8.reduceToNat,Int.reduceAdd,Int.reduceSub,Int.reduceMul,Nat.reduceMul,Qp0,Ql0,Qe0,hdI]
    refine hD.out.mono ?_
    rintro v h1 ⟨rfl, hz⟩
    rw [hz]
    clear hkd hks hD hz
    simp -dsimp -implicitDefEqProofs (disch := first | omega | assumption | (simp only [Option.isSome_some,Qt0]; done) | (simp only [UInt64.reduceToNat,UInt32.reduceToNat,UInt8.reduceToNat,List.length_cons,List.length_nil,List.length_append,Int.toNat_natCast] <;> omega)) only [Nat.reduceLT,Nat.reduceLeDiff,Nat.reduceEqDiff,↓reduceIte,Int.reduceLT,Int.reduceLE,Int.reduceToNat,Int.reduceEq,Int.reduceNe,Nat.reduceAdd,UInt8.reduceOfNat,UInt16.reduceOfNat,UInt32.reduceOfNat,UInt64.reduceOfNat,UInt64.reduceToNat,UInt32.reduceToNat,UInt16.reduceToNat,UInt8.reduceToNat,Int.reduceAdd,Int.reduceSub,Int.reduceMul,Nat.reduceMul,Qp0,Ql0,Qe0]
    refine fun b5 hb5 => ?_
    simp -dsimp -implicitDefEqProofs (disch := first | omega | assumption | (simp only [Option.isSome_some,Qt0]; done) | (simp only [UInt64.reduceToNat,UInt32.reduceToNat,UInt8.reduceToNat,List.length_cons,List.length_nil,List.length_append,Int.toNat_natCast] <;> omega)) only [Nat.reduceLT,Nat.reduceLeDiff,Nat.reduceEqDiff,↓reduceIte,Int.reduceLT,Int.reduceLE,Int.reduceToNat,Int.reduceEq,Int.reduceNe,Nat.reduceAdd,UInt8.reduceOfNat,UInt16.reduceOfNat,UInt32.reduceOfNat,UInt64.reduceOfNat,UInt64.reduceToNat,UInt32.reduceToNat,UInt16.reduceToNat,UInt8.reduceToNat,Int.reduceAdd,Int.reduceSub,Int.reduceMul,Nat.reduceMul,Qp0,Ql0,Qe0]
    refine fun b6 hb6 => ?_
    simp only [PH.new_top] at hb6
    obtain ⟨HT, hHT⟩ : ∃ HT : List Value → List Value → PH, ∀ X Y, HT X Y = (h.new b5 ⟨X, 64⟩).new b6 ⟨Y, 64⟩ := ⟨_, fun _ _ => rfl⟩
    have m5 : ∀ X Y, (HT X Y).m b5 = some ⟨X, 64⟩ := fun X Y => by rw [hHT, PH.new_m, if_neg (by omega), PH.new_m, if_pos rfl]
    have m6 : ∀ X Y, (HT X Y).m b6 = some ⟨Y, 64⟩ := fun X Y => by rw [hHT, PH.new_m, if_pos rfl]
    have n5 : ∀ X Y X', (HT X Y).new b5 ⟨X', 64⟩ = HT X' Y := fun X Y X' => by rw [hHT, hHT, PH.new_swap _ _ _ _ (by omega)]
    have n6 : ∀ X Y Y', (HT X Y).new b6 ⟨Y', 64⟩ = HT X Y' := fun X Y Y' => by rw [hHT, hHT, PH.new_new]
    have hLe : ∀ X Y, PH.Le h (HT X Y) := fun X Y => by rw [hHT]; exact ((PH.Le.refl h).new _ _ hb5).new _ _ (by omega)
    have r5 : ∀ X Y, X.length = 64 → rdN w0 (HT X Y) ⟨b5, 0, none⟩ 64 = some X := fun X Y hX => rdN_known (m5 X Y) hX
    obtain ⟨Z, hZ⟩ : ∃ Z, Z = List.replicate 64 (Value.int .u8 0) := ⟨_, rfl⟩
    have hZl : Z.length = 64 := by rw [hZ, List.length_replicate]
    have hZK : Z.take 0 ++ bs K ++ Z.drop (0 + K.length) = bs (padKey K) := by
      rw [hZ, Nat.zero_add, List.drop_replicate]; simp [padKey, bs, u8]
    rw [← hZ]
    simp -dsimp -implicitDefEqProofs (disch := first | omega | assumption | (simp only [Option.isSome_some,Qt0]; done) | (simp only [UInt64.reduceToNat,UInt32.reduceToNat,UInt8.reduceToNat,List.length_cons,List.length_nil,List.length_append,Int.toNat_natCast] <;> omega)) only [Nat.reduceLT,Nat.reduceLeDiff,Nat.reduceEqDiff,↓reduceIte,Int.reduceLT,Int.reduceLE,Int.reduceToNat,Int.reduceEq,Int.reduceNe,Nat.reduceAdd,UInt8.reduceOfNat,UInt16.reduceOfNat,UInt32.reduceOfNat,UInt64.reduceOfNat,UInt64.reduceToNat,UInt32.reduceToNat,UInt16.reduceToNat,UInt8.reduceToNat,Int.reduceAdd,Int.reduceSub,Int.reduceMul,Nat.reduceMul,Qp0,Ql0,Qe0,hZl,(hHT Z Z).symm]
    refine Does_copyT Tryz.underlying74 sz5 (m5 Z Z) (by omega) (by rw [hZl]; omega) ?_
    rw [hZK, n5]
    have hpb : (bs (padKey K)).length = 64 := by rw [bs_length, hkl]
    have hpo := bs_one (padKey K)
    have hspZ : Z.take 0 ++ bs (padKey K) ++ Z.drop 64 = bs (padKey K) := by rw [List.drop_of_length_le (by omega)]; simp
    have r5K := r5 (bs (padKey K)) Z hpb
    simp -dsimp -implicitDefEqProofs (disch := first | omega | assumption | (simp only [Option.isSome_some,Qt0]; done) | (simp only [UInt64.reduceToNat,UInt32.reduceToNat,UInt8.reduceToNat,List.length_cons,List.length_nil,List.length_append,Int.toNat_natCast] <;> omega)) only [Nat.reduceLT,Nat.reduceLeDiff,Nat.reduceEqDiff,↓reduceIte,Int.reduceLT,Int.reduceLE,Int.reduceToNat,Int.reduceEq,Int.reduceNe,Nat.reduceAdd,UInt8.reduceOfNat,UInt16.reduceOfNat,UInt32.reduceOfNat,UInt64.reduceOfNat,UInt64.reduceToNat,UInt32.reduceToNat,UInt16.reduceToNat,UInt8.reduceToNat,Int.reduceAdd,Int.reduceSub,Int.reduceMul,Nat.reduceMul,Qp0,Ql0,Qe0,r5K,m6,hZl,hpb,hpo,hspZ,n6]
    refine PW_loop (fun n f h' => ∃ i : Nat, i + n = 64 ∧ f 1 = some (str s) ∧ f 5 = some (.pointer (some ⟨b5, 0, none⟩)) ∧ f 6 = some (.pointer (some ⟨b6, 0, none⟩)) ∧ f 17 = some (.int .i64 i) ∧ h' = HT (bs (mixI (padKey K) 54 i)) (bs (mixI (padKey K) 92 i))) (by kernel_rfl) 64 ⟨0, by omega, ?_, ?_, ?_, ?_, by rw [mixI_zero, mixI_zero]⟩ ?_
    · simp -dsimp -implicitDefEqProofs (disch := first | omega | assumption | (simp only [Option.isSome_some,Qt0]; done) | (simp only [UInt64.reduceToNat,UInt32.reduceToNat,UInt8.reduceToNat,List.length_cons,List.length_nil,List.length_append,Int.toNat_natCast] <;> omega)) only [Nat.reduceLT,Nat.reduceLeDiff,Nat.reduceEqDiff,↓reduceIte,Int.reduceLT,Int.reduceLE,Int.reduceToNat,Int.reduceEq,Int.reduceNe,Nat.reduceAdd,UInt8.reduceOfNat,UInt16.reduceOfNat,UInt32.reduceOfNat,UInt64.reduceOfNat,UInt64.reduceToNat,UInt32.reduceToNat,UInt16.reduceToNat,UInt8.reduceToNat,Int.reduceAdd,Int.reduceSub,Int.reduceMul,Nat.reduceMul,Qp0,Ql0,Qe0]
    · simp -dsimp -implicitDefEqProofs (disch := first | omega | assumption | (simp only [Option.isSome_some,Qt0]; done) | (simp only [UInt64.reduceToNat,UInt32.reduceToNat,UInt8.reduceToNat,List.length_cons,List.length_nil,List.length_append,Int.toNat_natCast] <;> omega)) only [Nat.reduceLT,Nat.reduceLeDiff,Nat.reduceEqDiff,↓reduceIte,Int.reduceLT,Int.reduceLE,Int.reduceToNat,Int.reduceEq,Int.reduceNe,Nat.reduceAdd,UInt8.reduceOfNat,UInt16.reduceOfNat,UInt32.reduceOfNat,UInt64.reduceOfNat,UInt64.reduceToNat,UInt32.reduceToNat,UInt16.reduceToNat,UInt8.reduceToNat,Int.reduceAdd,Int.reduceSub,Int.reduceMul,Nat.reduceMul,Qp0,Ql0,Qe0]
    · simp -dsimp -implicitDefEqProofs (disch := first | omega | assumption | (simp only [Option.isSome_some,Qt0]; done) | (simp only [UInt64.reduceToNat,UInt32.reduceToNat,UInt8.reduceToNat,List.length_cons,List.length_nil,List.length_append,Int.toNat_natCast] <;> omega)) only [Nat.reduceLT,Nat.reduceLeDiff,Nat.reduceEqDiff,↓reduceIte,Int.reduceLT,Int.reduceLE,Int.reduceToNat,Int.reduceEq,Int.reduceNe,Nat.reduceAdd,UInt8.reduceOfNat,UInt16.reduceOfNat,UInt32.reduceOfNat,UInt64.reduceOfNat,UInt64.reduceToNat,UInt32.reduceToNat,UInt16.reduceToNat,UInt8.reduceToNat,Int.reduceAdd,Int.reduceSub,Int.reduceMul,Nat.reduceMul,Qp0,Ql0,Qe0]
    · simp -dsimp -implicitDefEqProofs (disch := first | omega | assumption | (simp only [Option.isSome_some,Qt0]; done) | (simp only [UInt64.reduceToNat,UInt32.reduceToNat,UInt8.reduceToNat,List.length_cons,List.length_nil,List.length_append,Int.toNat_natCast] <;> omega)) only [Nat.reduceLT,Nat.reduceLeDiff,Nat.reduceEqDiff,↓reduceIte,Int.reduceLT,Int.reduceLE,Int.reduceToNat,Int.reduceEq,Int.reduceNe,Nat.reduceAdd,UInt8.reduceOfNat,UInt16.reduceOfNat,UInt32.reduceOfNat,UInt64.reduceOfNat,UInt64.reduceToNat,UInt32.reduceToNat,UInt16.reduceToNat,UInt8.reduceToNat,Int.reduceAdd,Int.reduceSub,Int.reduceMul,Nat.reduceMul,Qp0,Ql0,Qe0]
      try rfl
    rintro n f h' ⟨i, hin, f1, f5, f6, f17, rfl⟩
    by_cases hi : i < 64
    · have hiI : decide ((i : Int) < 64) = true := decide_eq_true (by omega)
      have g5 := mixI_get (padKey K) 54 i (by omega)
      have g6 := mixI_get (padKey K) 92 i (by omega)
      have s5 := mixI_set (padKey K) 54 i (by omega)
      have s6 := mixI_set (padKey K) 92 i (by omega)
      have l5 : (bs (mixI (padKey K) 54 i)).length = 64 := by rw [bs_length, mixI_length, hkl]
      have l6 : (bs (mixI (padKey K) 92 i)).length = 64 := by rw [bs_length, mixI_length, hkl]
      generalize (padKey K).getD i 0 = c at *
      simp -dsimp -implicitDefEqProofs (disch := first | omega | assumption | (simp only [Option.isSome_some,Qt0]; done) | (simp only [UInt64.reduceToNat,UInt32.reduceToNat,UInt8.reduceToNat,List.length_cons,List.length_nil,List.length_append,Int.toNat_natCast] <;> omega)) only [Nat.reduceLT,Nat.reduceLeDiff,Nat.reduceEqDiff,↓reduceIte,Int.reduceLT,Int.reduceLE,Int.reduceToNat,Int.reduceEq,Int.reduceNe,Nat.reduceAdd,UInt8.reduceOfNat,UInt16.reduceOfNat,UInt32.reduceOfNat,UInt64.reduceOfNat,UInt64.reduceToNat,UInt32.reduceToNat,UInt16.reduceToNat,UInt8.reduceToNat,Int.reduceAdd,Int.reduceSub,Int.reduceMul,Nat.reduceMul,Qp0,Ql0,Qe0,f1,f5,f6,f17,hiI,rd_M,rdM_some,m5,m6,n5,n6,g5,g6,l5,l6,s5,s6]
      exact ⟨n - 1, _, by omega, PH.Le.refl _, i + 1, by omega, trivial, trivial, trivial, by simp, rfl⟩
    · obtain rfl : i = 64 := by omega
      rw [hmI, hmO]
      generalize mixL K 54 = I at *
      generalize mixL K 92 = O at *
      simp -dsimp -implicitDefEqProofs (disch := first | omega | assumption | (simp only [Option.isSome_some,Qt0]; done) | (simp only [UInt64.reduceToNat,UInt32.reduceToNat,UInt8.reduceToNat,List.length_cons,List.length_nil,List.length_append,Int.toNat_natCast] <;> omega)) only [Nat.reduceLT,Nat.reduceLeDiff,Nat.reduceEqDiff,↓reduceIte,Int.reduceLT,Int.reduceLE,Int.reduceToNat,Int.reduceEq,Int.reduceNe,Nat.reduceAdd,UInt8.reduceOfNat,UInt16.reduceOfNat,UInt32.reduceOfNat,UInt64.reduceOfNat,UInt64.reduceToNat,UInt32.reduceToNat,UInt16.reduceToNat,UInt8.reduceToNat,Int.reduceAdd,Int.reduceSub,Int.reduceMul,Nat.reduceMul,Qp0,Ql0,Qe0,f1,f5,f6,f17]
      refine PW_drawn 6 (HT (bs I) (bs O)) (by kernel_rfl) (by kernel_rfl) (by kernel_rfl) (by kernel_rfl) (by kernel_rfl) (fun c f h hq => by simp only [thenC_panic, thenK_panic, inBlk_panic, thenN_panic, vcRet_panic] at hq) (PH.Le.refl _).sub ?_
      simp -dsimp -implicitDefEqProofs (disch := first | omega | assumption | (simp only [Option.isSome_some,Qt0]; done) | (simp only [UInt64.reduceToNat,UInt32.reduceToNat,UInt8.reduceToNat,List.length_cons,List.length_nil,List.length_append,Int.toNat_natCast] <;> omega)) only [Nat.reduceLT,Nat.reduceLeDiff,Nat.reduceEqDiff,↓reduceIte,Int.reduceLT,Int.reduceLE,Int.reduceToNat,Int.reduceEq,Int.reduceNe,Nat.reduceAdd,UInt8.reduceOfNat,UInt16.reduceOfNat,UInt32.reduceOfNat,UInt64.reduceOfNat,UInt64.reduceToNat,UInt32.reduceToNat,UInt16.reduceToNat,UInt8.reduceToNat,Int.reduceAdd,Int.reduceSub,Int.reduceMul,Nat.reduceMul,Qp0,Ql0,Qe0,f1,f5,f6]
      refine vtext_own Tryz.underlying74 Tryz.underlying5 Tryz.underlying9 (Rs.blk (m6 _ _) (by simp only [bs_length]; omega)) (fun e => by cases e) ?_
      simp -dsimp -implicitDefEqProofs (disch := first | omega | assumption | (simp only [Option.isSome_some,Qt0]; done) | (simp only [UInt64.reduceToNat,UInt32.reduceToNat,UInt8.reduceToNat,List.length_cons,List.length_nil,List.length_append,Int.toNat_natCast] <;> omega)) only [Nat.reduceLT,Nat.reduceLeDiff,Nat.reduceEqDiff,↓reduceIte,Int.reduceLT,Int.reduceLE,Int.reduceToNat,Int.reduceEq,Int.reduceNe,Nat.reduceAdd,UInt8.reduceOfNat,UInt16.reduceOfNat,UInt32.reduceOfNat,UInt64.reduceOfNat,UInt64.reduceToNat,UInt32.reduceToNat,UInt16.reduceToNat,UInt8.reduceToNat,Int.reduceAdd,Int.reduceSub,Int.reduceMul,Nat.reduceMul,Qp0,Ql0,Qe0,f1,f5,f6]
      refine vtext_own Tryz.underlying74 Tryz.underlying5 Tryz.underlying9 (Rs.blk (m5 _ _) (by simp only [bs_length]; omega)) (fun e => by cases e) ?_
      simp -dsimp -implicitDefEqProofs (disch := first | omega | assumption | (simp only [Option.isSome_some,Qt0]; done) | (simp only [UInt64.reduceToNat,UInt32.reduceToNat,UInt8.reduceToNat,List.length_cons,List.length_nil,List.length_append,Int.toNat_natCast] <;> omega)) only [Nat.reduceLT,Nat.reduceLeDiff,Nat.reduceEqDiff,↓reduceIte,Int.reduceLT,Int.reduceLE,Int.reduceToNat,Int.reduceEq,Int.reduceNe,Nat.reduceAdd,UInt8.reduceOfNat,UInt16.reduceOfNat,UInt32.reduceOfNat,UInt64.reduceOfNat,UInt64.reduceToNat,UInt32.reduceToNat,UInt16.reduceToNat,UInt8.reduceToNat,Int.reduceAdd,Int.reduceSub,Int.reduceMul,Nat.reduceMul,Qp0,Ql0,Qe0,f1,f5,f6]
      refine (digest_any (I ++ s) (by simp; omega) w0 _).mono ?_
      rintro v h1 ⟨rfl, rfl⟩
      have hdl := Sha.dig_length (I ++ s)
      generalize Sha.dig (I ++ s) = D1 at *
      simp -dsimp -implicitDefEqProofs (disch := first | omega | assumption | (simp only [Option.isSome_some,Qt0]; done) | (simp only [UInt64.reduceToNat,UInt32.reduceToNat,UInt8.reduceToNat,List.length_cons,List.length_nil,List.length_append,Int.toNat_natCast] <;> omega)) only [Nat.reduceLT,Nat.reduceLeDiff,Nat.reduceEqDiff,↓reduceIte,Int.reduceLT,Int.reduceLE,Int.reduceToNat,Int.reduceEq,Int.reduceNe,Nat.reduceAdd,UInt8.reduceOfNat,UInt16.reduceOfNat,UInt32.reduceOfNat,UInt64.reduceOfNat,UInt64.reduceToNat,UInt32.reduceToNat,UInt16.reduceToNat,UInt8.reduceToNat,Int.reduceAdd,Int.reduceSub,Int.reduceMul,Nat.reduceMul,Qp0,Ql0,Qe0,f1,f5,f6]
      refine ⟨(PH.Le.refl _).sub, ?_⟩
      simp -dsimp -implicitDefEqProofs (disch := first | omega | assumption | (simp only [Option.isSome_some,Qt0]; done) | (simp only [UInt64.reduceToNat,UInt32.reduceToNat,UInt8.reduceToNat,List.length_cons,List.length_nil,List.length_append,Int.toNat_natCast] <;> omega)) only [Nat.reduceLT,Nat.reduceLeDiff,Nat.reduceEqDiff,↓reduceIte,Int.reduceLT,Int.reduceLE,Int.reduceToNat,Int.reduceEq,Int.reduceNe,Nat.reduceAdd,UInt8.reduceOfNat,UInt16.reduceOfNat,UInt32.reduceOfNat,UInt64.reduceOfNat,UInt64.reduceToNat,UInt32.reduceToNat,UInt16.reduceToNat,UInt8.reduceToNat,Int.reduceAdd,Int.reduceSub,Int.reduceMul,Nat.reduceMul,Qp0,Ql0,Qe0,f1,f5,f6]
      refine (digest_any (O ++ D1) (by simp; omega) w0 _).mono ?_
      rintro v h1 ⟨rfl, rfl⟩
      simp -dsimp -implicitDefEqProofs (disch := first | omega | assumption | (simp only [Option.isSome_some,Qt0]; done) | (simp only [UInt64.reduceToNat,UInt32.reduceToNat,UInt8.reduceToNat,List.length_cons,List.length_nil,List.length_append,Int.toNat_natCast] <;> omega)) only [Nat.reduceLT,Nat.reduceLeDiff,Nat.reduceEqDiff,↓reduceIte,Int.reduceLT,Int.reduceLE,Int.reduceToNat,Int.reduceEq,Int.reduceNe,Nat.reduceAdd,UInt8.reduceOfNat,UInt16.reduceOfNat,UInt32.reduceOfNat,UInt64.reduceOfNat,UInt64.reduceToNat,UInt32.reduceToNat,UInt16.reduceToNat,UInt8.reduceToNat,Int.reduceAdd,Int.reduceSub,Int.reduceMul,Nat.reduceMul,Qp0,Ql0,Qe0,f1,f5,f6]
      refine ⟨(PH.Le.refl _).sub, ?_⟩
      simp -dsimp -implicitDefEqProofs (disch := first | omega | assumption | (simp only [Option.isSome_some,Qt0]; done) | (simp only [UInt64.reduceToNat,UInt32.reduceToNat,UInt8.reduceToNat,List.length_cons,List.length_nil,List.length_append,Int.toNat_natCast] <;> omega)) only [Nat.reduceLT,Nat.reduceLeDiff,Nat.reduceEqDiff,↓reduceIte,Int.reduceLT,Int.reduceLE,Int.reduceToNat,Int.reduceEq,Int.reduceNe,Nat.reduceAdd,UInt8.reduceOfNat,UInt16.reduceOfNat,UInt32.reduceOfNat,UInt64.reduceOfNat,UInt64.reduceToNat,UInt32.reduceToNat,UInt16.reduceToNat,UInt8.reduceToNat,Int.reduceAdd,Int.reduceSub,Int.reduceMul,Nat.reduceMul,Qp0,Ql0,Qe0,f1,f5,f6]
      exact ⟨_, hLe _ _, by trivial, rfl⟩
  · have hdI : decide ((64 : Int) < (key.length : Int)) = false := decide_eq_false (by omega)
    obtain rfl := hks hlt
    clear hkd hks hD
    simp -dsimp -implicitDefEqProofs (disch := first | omega | assumption | (simp only [Option.isSome_some,Qt0]; done) | (simp only [UInt64.reduceToNat,UInt32.reduceToNat,UInt8.reduceToNat,List.length_cons,List.length_nil,List.length_append,Int.toNat_natCast] <;> omega)) only [Nat.reduceLT,Nat.reduceLeDiff,Nat.reduceEqDiff,↓reduceIte,Int.reduceLT,Int.reduceLE,Int.reduceToNat,Int.reduceEq,Int.reduceNe,Nat.reduceAdd,UInt8.reduceOfNat,UInt16.reduceOfNat,UInt32.reduceOfNat,UInt64.reduceOfNat,UInt64.reduceToNat,UInt32.reduceToNat,UInt16.reduceToNat,UInt8.reduceToNat,Int.reduceAdd,Int.reduceSub,Int.reduceMul,Nat.reduceMul,Qp0,Ql0,Qe0,hdI]
    refine fun b5 hb5 => ?_
    simp -dsimp -implicitDefEqProofs (disch := first | omega | assumption | (simp only [Option.isSome_some,Qt0]; done) | (simp only [UInt64.reduceToNat,UInt32.reduceToNat,UInt8.reduceToNat,List.length_cons,List.length_nil,List.length_append,Int.toNat_natCast] <;> omega)) only [Nat.reduceLT,Nat.reduceLeDiff,Nat.reduceEqDiff,↓reduceIte,Int.reduceLT,Int.reduceLE,Int.reduceToNat,Int.reduceEq,Int.reduceNe,Nat.reduceAdd,UInt8.reduceOfNat,UInt16.reduceOfNat,UInt32.reduceOfNat,UInt64.reduceOfNat,UInt64.reduceToNat,UInt32.reduceToNat,UInt16.reduceToNat,UInt8.reduceToNat,Int.reduceAdd,Int.reduceSub,Int.reduceMul,Nat.reduceMul,Qp0,Ql0,Qe0]
    refine fun b6 hb6 => ?_
    simp only [PH.new_top] at hb6
    obtain ⟨HT, hHT⟩ : ∃ HT : List Value → List Value → PH, ∀ X Y, HT X Y = (h.new b5 ⟨X, 64⟩).new b6 ⟨Y, 64⟩ := ⟨_, fun _ _ => rfl⟩
    have m5 : ∀ X Y, (HT X Y).m b5 = some ⟨X, 64⟩ := fun X Y => by rw [hHT, PH.new_m, if_neg (by omega), PH.new_m, if_pos rfl]
    have m6 : ∀ X Y, (HT X Y).m b6 = some ⟨Y, 64⟩ := fun X Y => by rw [hHT, PH.new_m, if_pos rfl]
    have n5 : ∀ X Y X', (HT X Y).new b5 ⟨X', 64⟩ = HT X' Y := fun X Y X' => by rw [hHT, hHT, PH.new_swap _ _ _ _ (by omega)]
    have n6 : ∀ X Y Y', (HT X Y).new b6 ⟨Y', 64⟩ = HT X Y' := fun X Y Y' => by rw [hHT, hHT, PH.new_new]
    have hLe : ∀ X Y, PH.Le h (HT X Y) := fun X Y => by rw [hHT]; exact ((PH.Le.refl h).new _ _ hb5).new _ _ (by omega)
    have r5 : ∀ X Y, X.length = 64 → rdN w0 (HT X Y) ⟨b5, 0, none⟩ 64 = some X := fun X Y hX => rdN_known (m5 X Y) hX
    obtain ⟨Z, hZ⟩ : ∃ Z, Z = List.replicate 64 (Value.int .u8 0) := ⟨_, rfl⟩
    have hZl : Z.length = 64 := by rw [hZ, List.length_replicate]
    have hZK : Z.take 0 ++ bs K ++ Z.drop (0 + K.length) = bs (padKey K) := by
      rw [hZ, Nat.zero_add, List.drop_replicate]; simp [padKey, bs, u8]
    rw [← hZ]
    simp -dsimp -implicitDefEqProofs (disch := first | omega | assumption | (simp only [Option.isSome_some,Qt0]; done) | (simp only [UInt64.reduceToNat,UInt32.reduceToNat,UInt8.reduceToNat,List.length_cons,List.length_nil,List.length_append,Int.toNat_natCast] <;> omega)) only [Nat.reduceLT,Nat.reduceLeDiff,Nat.reduceEqDiff,↓reduceIte,Int.reduceLT,Int.reduceLE,Int.reduceToNat,Int.reduceEq,Int.reduceNe,Nat.reduceAdd,UInt8.reduceOfNat,UInt16.reduceOfNat,UInt32.reduceOfNat,UInt64.reduceOfNat,UInt64.reduceToNat,UInt32.reduceToNat,UInt16.reduceToNat,UInt8.reduceToNat,Int.reduceAdd,Int.reduceSub,Int.reduceMul,Nat.reduceMul,Qp0,Ql0,Qe0,hZl,(hHT Z Z).symm]
    refine Does_copyT Tryz.underlying74 sz5 (m5 Z Z) (by omega) (by rw [hZl]; omega) ?_
    rw [hZK, n5]
    have hpb : (bs (padKey K)).length = 64 := by rw [bs_length, hkl]
    have hpo := bs_one (padKey K)
    have hspZ : Z.take 0 ++ bs (padKey K) ++ Z.drop 64 = bs (padKey K) := by rw [List.drop_of_length_le (by omega)]; simp
    have r5K := r5 (bs (padKey K)) Z hpb
    simp -dsimp -implicitDefEqProofs (disch := first | omega | assumption | (simp only [Option.isSome_some,Qt0]; done) | (simp only [UInt64.reduceToNat,UInt32.reduceToNat,UInt8.reduceToNat,List.length_cons,List.length_nil,List.length_append,Int.toNat_natCast] <;> omega)) only [Nat.reduceLT,Nat.reduceLeDiff,Nat.reduceEqDiff,↓reduceIte,Int.reduceLT,Int.reduceLE,Int.reduceToNat,Int.reduceEq,Int.reduceNe,Nat.reduceAdd,UInt8.reduceOfNat,UInt16.reduceOfNat,UInt32.reduceOfNat,UInt64.reduceOfNat,UInt64.reduceToNat,UInt32.reduceToNat,UInt16.reduceToNat,UInt8.reduceToNat,Int.reduceAdd,Int.reduceSub,Int.reduceMul,Nat.reduceMul,Qp0,Ql0,Qe0,r5K,m6,hZl,hpb,hpo,hspZ,n6]
    refine PW_loop (fun n f h' => ∃ i : Nat, i + n = 64 ∧ f 1 = some (str s) ∧ f 5 = some (.pointer (some ⟨b5, 0, none⟩)) ∧ f 6 = some (.pointer (some ⟨b6, 0, none⟩)) ∧ f 17 = some (.int .i64 i) ∧ h' = HT (bs (mixI (padKey K) 54 i)) (bs (mixI (padKey K) 92 i))) (by kernel_rfl) 64 ⟨0, by omega, ?_, ?_, ?_, ?_, by rw [mixI_zero, mixI_zero]⟩ ?_
    · simp -dsimp -implicitDefEqProofs (disch := first | omega | assumption | (simp only [Option.isSome_some,Qt0]; done) | (simp only [UInt64.reduceToNat,UInt32.reduceToNat,UInt8.reduceToNat,List.length_cons,List.length_nil,List.length_append,Int.toNat_natCast] <;> omega)) only [Nat.reduceLT,Nat.reduceLeDiff,Nat.reduceEqDiff,↓reduceIte,Int.reduceLT,Int.reduceLE,Int.reduceToNat,Int.reduceEq,Int.reduceNe,Nat.reduceAdd,UInt8.reduceOfNat,UInt16.reduceOfNat,UInt32.reduceOfNat,UInt64.reduceOfNat,UInt64.reduceToNat,UInt32.reduceToNat,UInt16.reduceToNat,UInt8.reduceToNat,Int.reduceAdd,Int.reduceSub,Int.reduceMul,Nat.reduceMul,Qp0,Ql0,Qe0]
    · simp -dsimp -implicitDefEqProofs (disch := first | omega | assumption | (simp only [Option.isSome_some,Qt0]; done) | (simp only [UInt64.reduceToNat,UInt32.reduceToNat,UInt8.reduceToNat,List.length_cons,List.length_nil,List.length_append,Int.toNat_natCast] <;> omega)) only [Nat.reduceLT,Nat.reduceLeDiff,Nat.reduceEqDiff,↓reduceIte,Int.reduceLT,Int.reduceLE,Int.reduceToNat,Int.reduceEq,Int.reduceNe,Nat.reduceAdd,UInt8.reduceOfNat,UInt16.reduceOfNat,UInt32.reduceOfNat,UInt64.reduceOfNat,UInt64.reduceToNat,UInt32.reduceToNat,UInt16.reduceToNat,UInt8.reduceToNat,Int.reduceAdd,Int.reduceSub,Int.reduceMul,Nat.reduceMul,Qp0,Ql0,Qe0]
    · simp -dsimp -implicitDefEqProofs (disch := first | omega | assumption | (simp only [Option.isSome_some,Qt0]; done) | (simp only [UInt64.reduceToNat,UInt32.reduceToNat,UInt8.reduceToNat,List.length_cons,List.length_nil,List.length_append,Int.toNat_natCast] <;> omega)) only [Nat.reduceLT,Nat.reduceLeDiff,Nat.reduceEqDiff,↓reduceIte,Int.reduceLT,Int.reduceLE,Int.reduceToNat,Int.reduceEq,Int.reduceNe,Nat.reduceAdd,UInt8.reduceOfNat,UInt16.reduceOfNat,UInt32.reduceOfNat,UInt64.reduceOfNat,UInt64.reduceToNat,UInt32.reduceToNat,UInt16.reduceToNat,UInt8.reduceToNat,Int.reduceAdd,Int.reduceSub,Int.reduceMul,Nat.reduceMul,Qp0,Ql0,Qe0]
    · simp -dsimp -implicitDefEqProofs (disch := first | omega | assumption | (simp only [Option.isSome_some,Qt0]; done) | (simp only [UInt64.reduceToNat,UInt32.reduceToNat,UInt8.reduceToNat,List.length_cons,List.length_nil,List.length_append,Int.toNat_natCast] <;> omega)) only [Nat.reduceLT,Nat.reduceLeDiff,Nat.reduceEqDiff,↓reduceIte,Int.reduceLT,Int.reduceLE,Int.reduceToNat,Int.reduceEq,Int.reduceNe,Nat.reduceAdd,UInt8.reduceOfNat,UInt16.reduceOfNat,UInt32.reduceOfNat,UInt64.reduceOfNat,UInt64.reduceToNat,UInt32.reduceToNat,UInt16.reduceToNat,UInt8.reduceToNat,Int.reduceAdd,Int.reduceSub,Int.reduceMul,Nat.reduceMul,Qp0,Ql0,Qe0]
      try rfl
    rintro n f h' ⟨i, hin, f1, f5, f6, f17, rfl⟩
    by_cases hi : i < 64
    · have hiI : decide ((i : Int) < 64) = true := decide_eq_true (by omega)
      have g5 := mixI_get (padKey K) 54 i (by omega)
      have g6 := mixI_get (padKey K) 92 i (by omega)
      have s5 := mixI_set (padKey K) 54 i (by omega)
      have s6 := mixI_set (padKey K) 92 i (by omega)
      have l5 : (bs (mixI (padKey K) 54 i)).length = 64 := by rw [bs_length, mixI_length, hkl]
      have l6 : (bs (mixI (padKey K) 92 i)).length = 64 := by rw [bs_length, mixI_length, hkl]
      generalize (padKey K).getD i 0 = c at *
      simp -dsimp -implicitDefEqProofs (disch := first | omega | assumption | (simp only [Option.isSome_some,Qt0]; done) | (simp only [UInt64.reduceToNat,UInt32.reduceToNat,UInt8.reduceToNat,List.length_cons,List.length_nil,List.length_append,Int.toNat_natCast] <;> omega)) only [Nat.reduceLT,Nat.reduceLeDiff,Nat.reduceEqDiff,↓reduceIte,Int.reduceLT,Int.reduceLE,Int.reduceToNat,Int.reduceEq,Int.reduceNe,Nat.reduceAdd,UInt8.reduceOfNat,UInt16.reduceOfNat,UInt32.reduceOfNat,UInt64.reduceOfNat,UInt64.reduceToNat,UInt32.reduceToNat,UInt16.reduceToNat,UInt8.reduceToNat,Int.reduceAdd,Int.reduceSub,Int.reduceMul,Nat.reduceMul,Qp0,Ql0,Qe0,f1,f5,f6,f17,hiI,rd_M,rdM_some,m5,m6,n5,n6,g5,g6,l5,l6,s5,s6]
      exact ⟨n - 1, _, by omega, PH.Le.refl _, i + 1, by omega, trivial, trivial, trivial, by simp, rfl⟩
    · obtain rfl : i = 64 := by omega
      rw [hmI, hmO]
      generalize mixL K 54 = I at *
      generalize mixL K 92 = O at *
      simp -dsimp -implicitDefEqProofs (disch := first | omega | assumption | (simp only [Option.isSome_some,Qt0]; done) | (simp only [UInt64.reduceToNat,UInt32.reduceToNat,UInt8.reduceToNat,List.length_cons,List.length_nil,List.length_append,Int.toNat_natCast] <;> omega)) only [Nat.reduceLT,Nat.reduceLeDiff,Nat.reduceEqDiff,↓reduceIte,Int.reduceLT,Int.reduceLE,Int.reduceToNat,Int.reduceEq,Int.reduceNe,Nat.reduceAdd,UInt8.reduceOfNat,UInt16.reduceOfNat,UInt32.reduceOfNat,UInt64.reduceOfNat,UInt64.reduceToNat,UInt32.reduceToNat,UInt16.reduceToNat,UInt8.reduceToNat,Int.reduceAdd,Int.reduceSub,Int.reduceMul,Nat.reduceMul,Qp0,Ql0,Qe0,f1,f5,f6,f17]
      refine PW_drawn 6 (HT (bs I) (bs O)) (by kernel_rfl) (by kernel_rfl) (by kernel_rfl) (by kernel_rfl) (by kernel_rfl) (fun c f h hq => by simp only [thenC_panic, thenK_panic, inBlk_panic, thenN_panic, vcRet_panic] at hq) (PH.Le.refl _).sub ?_
      simp -dsimp -implicitDefEqProofs (disch := first | omega | assumption | (simp only [Option.isSome_some,Qt0]; done) | (simp only [UInt64.reduceToNat,UInt32.reduceToNat,UInt8.reduceToNat,List.length_cons,List.length_nil,List.length_append,Int.toNat_natCast] <;> omega)) only [Nat.reduceLT,Nat.reduceLeDiff,Nat.reduceEqDiff,↓reduceIte,Int.reduceLT,Int.reduceLE,Int.reduceToNat,Int.reduceEq,Int.reduceNe,Nat.reduceAdd,UInt8.reduceOfNat,UInt16.reduceOfNat,UInt32.reduceOfNat,UInt64.reduceOfNat,UInt64.reduceToNat,UInt32.reduceToNat,UInt16.reduceToNat,UInt8.reduceToNat,Int.reduceAdd,Int.reduceSub,Int.reduceMul,Nat.reduceMul,Qp0,Ql0,Qe0,f1,f5,f6]
      refine vtext_own Tryz.underlying74 Tryz.underlying5 Tryz.underlying9 (Rs.blk (m6 _ _) (by simp only [bs_length]; omega)) (fun e => by cases e) ?_
      simp -dsimp -implicitDefEqProofs (disch := first | omega | assumption | (simp only [Option.isSome_some,Qt0]; done) | (simp only [UInt64.reduceToNat,UInt32.reduceToNat,UInt8.reduceToNat,List.length_cons,List.length_nil,List.length_append,Int.toNat_natCast] <;> omega)) only [Nat.reduceLT,Nat.reduceLeDiff,Nat.reduceEqDiff,↓reduceIte,Int.reduceLT,Int.reduceLE,Int.reduceToNat,Int.reduceEq,Int.reduceNe,Nat.reduceAdd,UInt8.reduceOfNat,UInt16.reduceOfNat,UInt32.reduceOfNat,UInt64.reduceOfNat,UInt64.reduceToNat,UInt32.reduceToNat,UInt16.reduceToNat,UInt8.reduceToNat,Int.reduceAdd,Int.reduceSub,Int.reduceMul,Nat.reduceMul,Qp0,Ql0,Qe0,f1,f5,f6]
      refine vtext_own Tryz.underlying74 Tryz.underlying5 Tryz.underlying9 (Rs.blk (m5 _ _) (by simp only [bs_length]; omega)) (fun e => by cases e) ?_
      simp -dsimp -implicitDefEqProofs (disch := first | omega | assumption | (simp only [Option.isSome_some,Qt0]; done) | (simp only [UInt64.reduceToNat,UInt32.reduceToNat,UInt8.reduceToNat,List.length_cons,List.length_nil,List.length_append,Int.toNat_natCast] <;> omega)) only [Nat.reduceLT,Nat.reduceLeDiff,Nat.reduceEqDiff,↓reduceIte,Int.reduceLT,Int.reduceLE,Int.reduceToNat,Int.reduceEq,Int.reduceNe,Nat.reduceAdd,UInt8.reduceOfNat,UInt16.reduceOfNat,UInt32.reduceOfNat,UInt64.reduceOfNat,UInt64.reduceToNat,UInt32.reduceToNat,UInt16.reduceToNat,UInt8.reduceToNat,Int.reduceAdd,Int.reduceSub,Int.reduceMul,Nat.reduceMul,Qp0,Ql0,Qe0,f1,f5,f6]
      refine (digest_any (I ++ s) (by simp; omega) w0 _).mono ?_
      rintro v h1 ⟨rfl, rfl⟩
      have hdl := Sha.dig_length (I ++ s)
      generalize Sha.dig (I ++ s) = D1 at *
      simp -dsimp -implicitDefEqProofs (disch := first | omega | assumption | (simp only [Option.isSome_some,Qt0]; done) | (simp only [UInt64.reduceToNat,UInt32.reduceToNat,UInt8.reduceToNat,List.length_cons,List.length_nil,List.length_append,Int.toNat_natCast] <;> omega)) only [Nat.reduceLT,Nat.reduceLeDiff,Nat.reduceEqDiff,↓reduceIte,Int.reduceLT,Int.reduceLE,Int.reduceToNat,Int.reduceEq,Int.reduceNe,Nat.reduceAdd,UInt8.reduceOfNat,UInt16.reduceOfNat,UInt32.reduceOfNat,UInt64.reduceOfNat,UInt64.reduceToNat,UInt32.reduceToNat,UInt16.reduceToNat,UInt8.reduceToNat,Int.reduceAdd,Int.reduceSub,Int.reduceMul,Nat.reduceMul,Qp0,Ql0,Qe0,f1,f5,f6]
      refine ⟨(PH.Le.refl _).sub, ?_⟩
      simp -dsimp -implicitDefEqProofs (disch := first | omega | assumption | (simp only [Option.isSome_some,Qt0]; done) | (simp only [UInt64.reduceToNat,UInt32.reduceToNat,UInt8.reduceToNat,List.length_cons,List.length_nil,List.length_append,Int.toNat_natCast] <;> omega)) only [Nat.reduceLT,Nat.reduceLeDiff,Nat.reduceEqDiff,↓reduceIte,Int.reduceLT,Int.reduceLE,Int.reduceToNat,Int.reduceEq,Int.reduceNe,Nat.reduceAdd,UInt8.reduceOfNat,UInt16.reduceOfNat,UInt32.reduceOfNat,UInt64.reduceOfNat,UInt64.reduceToNat,UInt32.reduceToNat,UInt16.reduceToNat,UInt8.reduceToNat,Int.reduceAdd,Int.reduceSub,Int.reduceMul,Nat.reduceMul,Qp0,Ql0,Qe0,f1,f5,f6]
      refine (digest_any (O ++ D1) (by simp; omega) w0 _).mono ?_
      rintro v h1 ⟨rfl, rfl⟩
      simp -dsimp -implicitDefEqProofs (disch := first | omega | assumption | (simp only [Option.isSome_some,Qt0]; done) | (simp only [UInt64.reduceToNat,UInt32.reduceToNat,UInt8.reduceToNat,List.length_cons,List.length_nil,List.length_append,Int.toNat_natCast] <;> omega)) only [Nat.reduceLT,Nat.reduceLeDiff,Nat.reduceEqDiff,↓reduceIte,Int.reduceLT,Int.reduceLE,Int.reduceToNat,Int.reduceEq,Int.reduceNe,Nat.reduceAdd,UInt8.reduceOfNat,UInt16.reduceOfNat,UInt32.reduceOfNat,UInt64.reduceOfNat,UInt64.reduceToNat,UInt32.reduceToNat,UInt16.reduceToNat,UInt8.reduceToNat,Int.reduceAdd,Int.reduceSub,Int.reduceMul,Nat.reduceMul,Qp0,Ql0,Qe0,f1,f5,f6]
      refine ⟨(PH.Le.refl _).sub, ?_⟩
      simp -dsimp -implicitDefEqProofs (disch := first | omega | assumption | (simp only [Option.isSome_some,Qt0]; done) | (simp only [UInt64.reduceToNat,UInt32.reduceToNat,UInt8.reduceToNat,List.length_cons,List.length_nil,List.length_append,Int.toNat_natCast] <;> omega)) only [Nat.reduceLT,Nat.reduceLeDiff,Nat.reduceEqDiff,↓reduceIte,Int.reduceLT,Int.reduceLE,Int.reduceToNat,Int.reduceEq,Int.reduceNe,Nat.reduceAdd,UInt8.reduceOfNat,UInt16.reduceOfNat,UInt32.reduceOfNat,UInt64.reduceOfNat,UInt64.reduceToNat,UInt32.reduceToNat,UInt16.reduceToNat,UInt8.reduceToNat,Int.reduceAdd,Int.reduceSub,Int.reduceMul,Nat.reduceMul,Qp0,Ql0,Qe0,f1,f5,f6]
      exact ⟨_, hLe _ _, by trivial, rfl⟩
theorem padKey_get (k : List UInt8) (i : Nat) (h : i < k.length) : (padKey k).getD i 0 = k.getD i 0 := by
  simp [padKey, List.getD, List.getElem?_append, h]
theorem padKey_zero (k : List UInt8) (i : Nat) (h : k.length ≤ i) : (padKey k).getD i 0 = 0 := by
  simp only [padKey, List.getD, List.getElem?_append_right h, List.getElem?_replicate]
  split <;> rfl
theorem mixL_next (k : List UInt8) (c : UInt8) (i : Nat) (h : i < 64) : (mixL k c).take (i + 1) = (mixL k c).take i ++ [(padKey k).getD i 0 ^^^ c] := by
  have hl : i < (padKey k).length := by simp [padKey]; omega
  unfold mixL
  rw [List.take_succ_eq_append_getElem (by rw [List.length_map]; exact hl)]
  simp [List.getD, List.getElem?_eq_getElem hl]
set_option maxRecDepth 100000 in
set_option maxHeartbeats 2000000 in
theorem rtag_any (key s : List UInt8) (hk : key.length ≤ 900000) (hs : s.length ≤ 900000) (w0 : World) (h : PH) : PCalls Tryz.prog w0 40 [str key, str s] h fun v h' => v = str (tag key s) ∧ h' = h := by
  refine PCalls_body Tryz.func40 (by kernel_rfl) rfl _ Tryz.ntmps40 (by kernel_rfl) (by kernel_rfl) _ Tryz.results40 ?_
  have hko := keyOf_length key
  have hD := Lib.hid (@rdigest_any key (by omega) w0 h)
  have hkd : 64 < key.length → keyOf key = Sha.dig key := fun e => by unfold keyOf; rw [if_pos e]
  have hks : ¬ 64 < key.length → keyOf key = key := fun e => by unfold keyOf; rw [if_neg e]
  have htg : tag key s = Sha.dig (mixL (keyOf key) 92 ++ Sha.dig (mixL (keyOf key) 54 ++ s)) := rfl
  rw [htg]
  clear htg
  generalize keyOf key = K at *
  generalize Sha.dig key = DK at *
  have hkl := padKey_length K hko
  have hmI := mixI_all K 54 hko
  have hmO := mixI_all K 92 hko
  have hlI := mixL_length K 54 hko
  have hlO := mixL_length K 92 hko
  by_cases hlt : 64 < key.length
  · have hdI : decide ((64 : Int) < (key.length : Int)) = true := decide_eq_true (by omega)
    obtain rfl := hkd hlt
    simp -dsimp -implicitDefEqProofs (disch := first | omega | assumption | (simp only [Option.isSome_some,Qt0]; done) | (simp only [UInt64.reduceToNat,UInt32.reduceToNat,UInt8.reduceToNat,List.length_cons,List.length_nil,List.length_append,Int.toNat_natCast] <;> omega)) only [Nat.reduceLT,Nat.reduceLeDiff,Nat.reduceEqDiff,↓reduceIte,Int.reduceLT,Int.reduceLE,Int.reduceToNat,Int.reduceEq,Int.reduceNe,Nat.reduceAdd,UInt8.reduceOfNat,UInt16.reduceOfNat,UInt32.reduceOfNat,UInt64.reduceOfNat,UInt64.reduceToNat,UInt32.reduceToNat,UInt16.reduceToNat,UInt8.reduceToNat,Int.reduceAdd,Int.reduceSub,Int.reduceMul,Nat.reduceMul,Qp0,Ql0,Qe0,hdI]
    refine hD.out.mono ?_
    rintro v h1 ⟨rfl, hz⟩
    rw [hz]
    clear hkd hks hD hz
    simp -dsimp -implicitDefEqProofs (disch := first | omega | assumption | (simp only [Option.isSome_some,Qt0]; done) | (simp only [UInt64.reduceToNat,UInt32.reduceToNat,UInt8.reduceToNat,List.length_cons,List.length_nil,List.length_append,Int.toNat_natCast] <;> omega)) only [Nat.reduceLT,Nat.reduceLeDiff,Nat.reduceEqDiff,↓reduceIte,Int.reduceLT,Int.reduceLE,Int.reduceToNat,Int.reduceEq,Int.reduceNe,Nat.reduceAdd,UInt8.reduceOfNat,UInt16.reduceOfNat,UInt32.reduceOfNat,UInt64.reduceOfNat,UInt64.reduceToNat,UInt32.reduceToNat,UInt16.reduceToNat,UInt8.reduceToNat,Int.reduceAdd,Int.reduceSub,Int.reduceMul,Nat.reduceMul,Qp0,Ql0,Qe0]
    refine Does_zero el_u8m (fun b5 hb5 => ?_)
    simp -dsimp -implicitDefEqProofs (disch := first | omega | assumption | (simp only [Option.isSome_some,Qt0]; done) | (simp only [UInt64.reduceToNat,UInt32.reduceToNat,UInt8.reduceToNat,List.length_cons,List.length_nil,List.length_append,Int.toNat_natCast] <;> omega)) only [Nat.reduceLT,Nat.reduceLeDiff,Nat.reduceEqDiff,↓reduceIte,Int.reduceLT,Int.reduceLE,Int.reduceToNat,Int.reduceEq,Int.reduceNe,Nat.reduceAdd,UInt8.reduceOfNat,UInt16.reduceOfNat,UInt32.reduceOfNat,UInt64.reduceOfNat,UInt64.reduceToNat,UInt32.reduceToNat,UInt16.reduceToNat,UInt8.reduceToNat,Int.reduceAdd,Int.reduceSub,Int.reduceMul,Nat.reduceMul,Qp0,Ql0,Qe0]
    refine Does_zero el_u8m (fun b6 hb6 => ?_)
    simp only [PH.new_top] at hb6
    have how : Two h ((h.new b5 ⟨[], 0⟩).new b6 ⟨[], 0⟩) 1 1 (.slice (some ⟨b5, 0, none⟩) 0 0) 0 [] (.slice (some ⟨b6, 0, none⟩) 0 0) 0 [] := ⟨(OwnS.zero 1 hb5).more ((PH.Le.refl _).new _ _ (by simp only [PH.new_top]; omega)), ⟨((PH.Le.refl h).new _ _ hb5).new _ _ (by omega), (OwnS.zero (h := h.new b5 ⟨[], 0⟩) 1 (by simp only [PH.new_top]; omega)).own, fun x e => by cases e; show h.top ≤ b6; omega⟩, fun x e e' => by cases e; cases e'; omega⟩
    generalize (h.new b5 ⟨[], 0⟩).new b6 ⟨[], 0⟩ = h2 at *
    simp -dsimp -implicitDefEqProofs (disch := first | omega | assumption | (simp only [Option.isSome_some,Qt0]; done) | (simp only [UInt64.reduceToNat,UInt32.reduceToNat,UInt8.reduceToNat,List.length_cons,List.length_nil,List.length_append,Int.toNat_natCast] <;> omega)) only [Nat.reduceLT,Nat.reduceLeDiff,Nat.reduceEqDiff,↓reduceIte,Int.reduceLT,Int.reduceLE,Int.reduceToNat,Int.reduceEq,Int.reduceNe,Nat.reduceAdd,UInt8.reduceOfNat,UInt16.reduceOfNat,UInt32.reduceOfNat,UInt64.reduceOfNat,UInt64.reduceToNat,UInt32.reduceToNat,UInt16.reduceToNat,UInt8.reduceToNat,Int.reduceAdd,Int.reduceSub,Int.reduceMul,Nat.reduceMul,Qp0,Ql0,Qe0]
    refine PW_loop (fun n f h' => ∃ (i : Nat) (v u : Value), i + n = 64 ∧ f 0 = some (str K) ∧ f 1 = some (str s) ∧ f 5 = some v ∧ f 6 = some u ∧ f 7 = some (.int .i64 i) ∧ Two h h' 1 1 v i (bs ((mixL K 54).take i)) u i (bs ((mixL K 92).take i))) (by kernel_rfl) 64 ⟨0, _, _, by omega, ?_, ?_, ?_, ?_, ?_, how⟩ ?_
    · simp -dsimp -implicitDefEqProofs (disch := first | omega | assumption | (simp only [Option.isSome_some,Qt0]; done) | (simp only [UInt64.reduceToNat,UInt32.reduceToNat,UInt8.reduceToNat,List.length_cons,List.length_nil,List.length_append,Int.toNat_natCast] <;> omega)) only [Nat.reduceLT,Nat.reduceLeDiff,Nat.reduceEqDiff,↓reduceIte,Int.reduceLT,Int.reduceLE,Int.reduceToNat,Int.reduceEq,Int.reduceNe,Nat.reduceAdd,UInt8.reduceOfNat,UInt16.reduceOfNat,UInt32.reduceOfNat,UInt64.reduceOfNat,UInt64.reduceToNat,UInt32.reduceToNat,UInt16.reduceToNat,UInt8.reduceToNat,Int.reduceAdd,Int.reduceSub,Int.reduceMul,Nat.reduceMul,Qp0,Ql0,Qe0]
    · simp -dsimp -implicitDefEqProofs (disch := first | omega | assumption | (simp only [Option.isSome_some,Qt0]; done) | (simp only [UInt64.reduceToNat,UInt32.reduceToNat,UInt8.reduceToNat,List.length_cons,List.length_nil,List.length_append,Int.toNat_natCast] <;> omega)) only [Nat.reduceLT,Nat.reduceLeDiff,Nat.reduceEqDiff,↓reduceIte,Int.reduceLT,Int.reduceLE,Int.reduceToNat,Int.reduceEq,Int.reduceNe,Nat.reduceAdd,UInt8.reduceOfNat,UInt16.reduceOfNat,UInt32.reduceOfNat,UInt64.reduceOfNat,UInt64.reduceToNat,UInt32.reduceToNat,UInt16.reduceToNat,UInt8.reduceToNat,Int.reduceAdd,Int.reduceSub,Int.reduceMul,Nat.reduceMul,Qp0,Ql0,Qe0]
    · simp -dsimp -implicitDefEqProofs (disch := first | omega | assumption | (simp only [Option.isSome_some,Qt0]; done) | (simp only [UInt64.reduceToNat,UInt32.reduceToNat,UInt8.reduceToNat,List.length_cons,List.length_nil,List.length_append,Int.toNat_natCast] <;> omega)) only [Nat.reduceLT,Nat.reduceLeDiff,Nat.reduceEqDiff,↓reduceIte,Int.reduceLT,Int.reduceLE,Int.reduceToNat,Int.reduceEq,Int.reduceNe,Nat.reduceAdd,UInt8.reduceOfNat,UInt16.reduceOfNat,UInt32.reduceOfNat,UInt64.reduceOfNat,UInt64.reduceToNat,UInt32.reduceToNat,UInt16.reduceToNat,UInt8.reduceToNat,Int.reduceAdd,Int.reduceSub,Int.reduceMul,Nat.reduceMul,Qp0,Ql0,Qe0]
    · simp -dsimp -implicitDefEqProofs (disch := first | omega | assumption | (simp only [Option.isSome_some,Qt0]; done) | (simp only [UInt64.reduceToNat,UInt32.reduceToNat,UInt8.reduceToNat,List.length_cons,List.length_nil,List.length_append,Int.toNat_natCast] <;> omega)) only [Nat.reduceLT,Nat.reduceLeDiff,Nat.reduceEqDiff,↓reduceIte,Int.reduceLT,Int.reduceLE,Int.reduceToNat,Int.reduceEq,Int.reduceNe,Nat.reduceAdd,UInt8.reduceOfNat,UInt16.reduceOfNat,UInt32.reduceOfNat,UInt64.reduceOfNat,UInt64.reduceToNat,UInt32.reduceToNat,UInt16.reduceToNat,UInt8.reduceToNat,Int.reduceAdd,Int.reduceSub,Int.reduceMul,Nat.reduceMul,Qp0,Ql0,Qe0]
    · simp -dsimp -implicitDefEqProofs (disch := first | omega | assumption | (simp only [Option.isSome_some,Qt0]; done) | (simp only [UInt64.reduceToNat,UInt32.reduceToNat,UInt8.reduceToNat,List.length_cons,List.length_nil,List.length_append,Int.toNat_natCast] <;> omega)) only [Nat.reduceLT,Nat.reduceLeDiff,Nat.reduceEqDiff,↓reduceIte,Int.reduceLT,Int.reduceLE,Int.reduceToNat,Int.reduceEq,Int.reduceNe,Nat.reduceAdd,UInt8.reduceOfNat,UInt16.reduceOfNat,UInt32.reduceOfNat,UInt64.reduceOfNat,UInt64.reduceToNat,UInt32.reduceToNat,UInt16.reduceToNat,UInt8.reduceToNat,Int.reduceAdd,Int.reduceSub,Int.reduceMul,Nat.reduceMul,Qp0,Ql0,Qe0]
      try rfl
    clear how h2
    rintro n f h3 ⟨i, v, u, hin, f0, f1, f5, f6, f7, how⟩
    by_cases hi : i < 64
    · have hiI : decide ((i : Int) < 64) = true := decide_eq_true (by omega)
      obtain ⟨c, hc⟩ : ∃ c, (padKey K).getD i 0 = c := ⟨_, rfl⟩
      have hA := mixL_next K 54 i (by omega)
      have hB := mixL_next K 92 i (by omega)
      rw [hc] at hA hB
      by_cases hik : i < K.length
      · have hikI : decide ((i : Int) < (K.length : Int)) = true := decide_eq_true (by omega)
        have hcK : K.getD i 0 = c := by rw [← hc, padKey_get K i hik]
        simp -dsimp -implicitDefEqProofs (disch := first | omega | assumption | (simp only [Option.isSome_some,Qt0]; done) | (simp only [UInt64.reduceToNat,UInt32.reduceToNat,UInt8.reduceToNat,List.length_cons,List.length_nil,List.length_append,Int.toNat_natCast] <;> omega)) only [Nat.reduceLT,Nat.reduceLeDiff,Nat.reduceEqDiff,↓reduceIte,Int.reduceLT,Int.reduceLE,Int.reduceToNat,Int.reduceEq,Int.reduceNe,Nat.reduceAdd,UInt8.reduceOfNat,UInt16.reduceOfNat,UInt32.reduceOfNat,UInt64.reduceOfNat,UInt64.reduceToNat,UInt32.reduceToNat,UInt16.reduceToNat,UInt8.reduceToNat,Int.reduceAdd,Int.reduceSub,Int.reduceMul,Nat.reduceMul,Qp0,Ql0,Qe0,f0,f1,f5,f6,f7,hiI,hikI,hcK]
        refine Does_one (v := u8 _) el_u8m rfl (by omega) (fun gb hgb => ?_)
        simp -dsimp -implicitDefEqProofs (disch := first | omega | assumption | (simp only [Option.isSome_some,Qt0]; done) | (simp only [UInt64.reduceToNat,UInt32.reduceToNat,UInt8.reduceToNat,List.length_cons,List.length_nil,List.length_append,Int.toNat_natCast] <;> omega)) only [Nat.reduceLT,Nat.reduceLeDiff,Nat.reduceEqDiff,↓reduceIte,Int.reduceLT,Int.reduceLE,Int.reduceToNat,Int.reduceEq,Int.reduceNe,Nat.reduceAdd,UInt8.reduceOfNat,UInt16.reduceOfNat,UInt32.reduceOfNat,UInt64.reduceOfNat,UInt64.reduceToNat,UInt32.reduceToNat,UInt16.reduceToNat,UInt8.reduceToNat,Int.reduceAdd,Int.reduceSub,Int.reduceMul,Nat.reduceMul,Qp0,Ql0,Qe0,f0,f1,f5,f6,f7]
        refine Does_app el_u8m (how.more ((PH.Le.refl _).new _ _ hgb)).one.own (Rs.blk (k := ⟨bs [_], 1⟩) (by rw [PH.new_m, if_pos rfl]; rfl) rfl) (bs_one _) (by unfold maxLen; omega) (by omega) (fun v4 h4 ho hst => ?_)
        have how4 := (how.more ((PH.Le.refl _).new _ _ hgb)).stays hst ho
        simp -dsimp -implicitDefEqProofs (disch := first | omega | assumption | (simp only [Option.isSome_some,Qt0]; done) | (simp only [UInt64.reduceToNat,UInt32.reduceToNat,UInt8.reduceToNat,List.length_cons,List.length_nil,List.length_append,Int.toNat_natCast] <;> omega)) only [Nat.reduceLT,Nat.reduceLeDiff,Nat.reduceEqDiff,↓reduceIte,Int.reduceLT,Int.reduceLE,Int.reduceToNat,Int.reduceEq,Int.reduceNe,Nat.reduceAdd,UInt8.reduceOfNat,UInt16.reduceOfNat,UInt32.reduceOfNat,UInt64.reduceOfNat,UInt64.reduceToNat,UInt32.reduceToNat,UInt16.reduceToNat,UInt8.reduceToNat,Int.reduceAdd,Int.reduceSub,Int.reduceMul,Nat.reduceMul,Qp0,Ql0,Qe0,f0,f1,f5,f6,f7]
        refine Does_one (v := u8 _) el_u8m rfl (by omega) (fun gc hgc => ?_)
        simp -dsimp -implicitDefEqProofs (disch := first | omega | assumption | (simp only [Option.isSome_some,Qt0]; done) | (simp only [UInt64.reduceToNat,UInt32.reduceToNat,UInt8.reduceToNat,List.length_cons,List.length_nil,List.length_append,Int.toNat_natCast] <;> omega)) only [Nat.reduceLT,Nat.reduceLeDiff,Nat.reduceEqDiff,↓reduceIte,Int.reduceLT,Int.reduceLE,Int.reduceToNat,Int.reduceEq,Int.reduceNe,Nat.reduceAdd,UInt8.reduceOfNat,UInt16.reduceOfNat,UInt32.reduceOfNat,UInt64.reduceOfNat,UInt64.reduceToNat,UInt32.reduceToNat,UInt16.reduceToNat,UInt8.reduceToNat,Int.reduceAdd,Int.reduceSub,Int.reduceMul,Nat.reduceMul,Qp0,Ql0,Qe0,f0,f1,f5,f6,f7]
        refine Does_app el_u8m (how4.more ((PH.Le.refl _).new _ _ hgc)).two.own (Rs.blk (k := ⟨bs [_], 1⟩) (by rw [PH.new_m, if_pos rfl]; rfl) rfl) (bs_one _) (by unfold maxLen; omega) (by omega) (fun v5 h5 ho hst => ?_)
        have how5 := ((how4.more ((PH.Le.refl _).new _ _ hgc)).swap.stays hst ho).swap
        simp -dsimp -implicitDefEqProofs (disch := first | omega | assumption | (simp only [Option.isSome_some,Qt0]; done) | (simp only [UInt64.reduceToNat,UInt32.reduceToNat,UInt8.reduceToNat,List.length_cons,List.length_nil,List.length_append,Int.toNat_natCast] <;> omega)) only [Nat.reduceLT,Nat.reduceLeDiff,Nat.reduceEqDiff,↓reduceIte,Int.reduceLT,Int.reduceLE,Int.reduceToNat,Int.reduceEq,Int.reduceNe,Nat.reduceAdd,UInt8.reduceOfNat,UInt16.reduceOfNat,UInt32.reduceOfNat,UInt64.reduceOfNat,UInt64.reduceToNat,UInt32.reduceToNat,UInt16.reduceToNat,UInt8.reduceToNat,Int.reduceAdd,Int.reduceSub,Int.reduceMul,Nat.reduceMul,Qp0,Ql0,Qe0,f0,f1,f5,f6,f7]
        refine ⟨n - 1, h5, by omega, PH.Le.refl _, i + 1, v4, v5, by omega, by trivial, by trivial, by trivial, by trivial, by simp, ?_⟩
        rw [hA, hB, bs_append, bs_append]
        exact how5
      · have hikI : decide ((i : Int) < (K.length : Int)) = false := decide_eq_false (by omega)
        obtain rfl : c = 0 := by rw [← hc, padKey_zero K i (by omega)]
        simp -dsimp -implicitDefEqProofs (disch := first | omega | assumption | (simp only [Option.isSome_some,Qt0]; done) | (simp only [UInt64.reduceToNat,UInt32.reduceToNat,UInt8.reduceToNat,List.length_cons,List.length_nil,List.length_append,Int.toNat_natCast] <;> omega)) only [Nat.reduceLT,Nat.reduceLeDiff,Nat.reduceEqDiff,↓reduceIte,Int.reduceLT,Int.reduceLE,Int.reduceToNat,Int.reduceEq,Int.reduceNe,Nat.reduceAdd,UInt8.reduceOfNat,UInt16.reduceOfNat,UInt32.reduceOfNat,UInt64.reduceOfNat,UInt64.reduceToNat,UInt32.reduceToNat,UInt16.reduceToNat,UInt8.reduceToNat,Int.reduceAdd,Int.reduceSub,Int.reduceMul,Nat.reduceMul,Qp0,Ql0,Qe0,f0,f1,f5,f6,f7,hiI,hikI]
        refine Does_one (v := u8 _) el_u8m rfl (by omega) (fun gb hgb => ?_)
        simp -dsimp -implicitDefEqProofs (disch := first | omega | assumption | (simp only [Option.isSome_some,Qt0]; done) | (simp only [UInt64.reduceToNat,UInt32.reduceToNat,UInt8.reduceToNat,List.length_cons,List.length_nil,List.length_append,Int.toNat_natCast] <;> omega)) only [Nat.reduceLT,Nat.reduceLeDiff,Nat.reduceEqDiff,↓reduceIte,Int.reduceLT,Int.reduceLE,Int.reduceToNat,Int.reduceEq,Int.reduceNe,Nat.reduceAdd,UInt8.reduceOfNat,UInt16.reduceOfNat,UInt32.reduceOfNat,UInt64.reduceOfNat,UInt64.reduceToNat,UInt32.reduceToNat,UInt16.reduceToNat,UInt8.reduceToNat,Int.reduceAdd,Int.reduceSub,Int.reduceMul,Nat.reduceMul,Qp0,Ql0,Qe0,f0,f1,f5,f6,f7]
        refine Does_app el_u8m (how.more ((PH.Le.refl _).new _ _ hgb)).one.own (Rs.blk (k := ⟨bs [_], 1⟩) (by rw [PH.new_m, if_pos rfl]; rfl) rfl) (bs_one _) (by unfold maxLen; omega) (by omega) (fun v4 h4 ho hst => ?_)
        have how4 := (how.more ((PH.Le.refl _).new _ _ hgb)).stays hst ho
        simp -dsimp -implicitDefEqProofs (disch := first | omega | assumption | (simp only [Option.isSome_some,Qt0]; done) | (simp only [UInt64.reduceToNat,UInt32.reduceToNat,UInt8.reduceToNat,List.length_cons,List.length_nil,List.length_append,Int.toNat_natCast] <;> omega)) only [Nat.reduceLT,Nat.reduceLeDiff,Nat.reduceEqDiff,↓reduceIte,Int.reduceLT,Int.reduceLE,Int.reduceToNat,Int.reduceEq,Int.reduceNe,Nat.reduceAdd,UInt8.reduceOfNat,UInt16.reduceOfNat,UInt32.reduceOfNat,UInt64.reduceOfNat,UInt64.reduceToNat,UInt32.reduceToNat,UInt16.reduceToNat,UInt8.reduceToNat,Int.reduceAdd,Int.reduceSub,Int.reduceMul,Nat.reduceMul,Qp0,Ql0,Qe0,f0,f1,f5,f6,f7]
        refine Does_one (v := u8 _) el_u8m rfl (by omega) (fun gc hgc => ?_)
        simp -dsimp -implicitDefEqProofs (disch := first | omega | assumption | (simp only [Option.isSome_some,Qt0]; done) | (simp only [UInt64.reduceToNat,UInt32.reduceToNat,UInt8.reduceToNat,List.length_cons,List.length_nil,List.length_append,Int.toNat_natCast] <;> omega)) only [Nat.reduceLT,Nat.reduceLeDiff,Nat.reduceEqDiff,↓reduceIte,Int.reduceLT,Int.reduceLE,Int.reduceToNat,Int.reduceEq,Int.reduceNe,Nat.reduceAdd,UInt8.reduceOfNat,UInt16.reduceOfNat,UInt32.reduceOfNat,UInt64.reduceOfNat,UInt64.reduceToNat,UInt32.reduceToNat,UInt16.reduceToNat,UInt8.reduceToNat,Int.reduceAdd,Int.reduceSub,Int.reduceMul,Nat.reduceMul,Qp0,Ql0,Qe0,f0,f1,f5,f6,f7]
        refine Does_app el_u8m (how4.more ((PH.Le.refl _).new _ _ hgc)).two.own (Rs.blk (k := ⟨bs [_], 1⟩) (by rw [PH.new_m, if_pos rfl]; rfl) rfl) (bs_one _) (by unfold maxLen; omega) (by omega) (fun v5 h5 ho hst => ?_)
        have how5 := ((how4.more ((PH.Le.refl _).new _ _ hgc)).swap.stays hst ho).swap
        simp -dsimp -implicitDefEqProofs (disch := first | omega | assumption | (simp only [Option.isSome_some,Qt0]; done) | (simp only [UInt64.reduceToNat,UInt32.reduceToNat,UInt8.reduceToNat,List.length_cons,List.length_nil,List.length_append,Int.toNat_natCast] <;> omega)) only [Nat.reduceLT,Nat.reduceLeDiff,Nat.reduceEqDiff,↓reduceIte,Int.reduceLT,Int.reduceLE,Int.reduceToNat,Int.reduceEq,Int.reduceNe,Nat.reduceAdd,UInt8.reduceOfNat,UInt16.reduceOfNat,UInt32.reduceOfNat,UInt64.reduceOfNat,UInt64.reduceToNat,UInt32.reduceToNat,UInt16.reduceToNat,UInt8.reduceToNat,Int.reduceAdd,Int.reduceSub,Int.reduceMul,Nat.reduceMul,Qp0,Ql0,Qe0,f0,f1,f5,f6,f7]
        refine ⟨n - 1, h5, by omega, PH.Le.refl _, i + 1, v4, v5, by omega, by trivial, by trivial, by trivial, by trivial, by simp, ?_⟩
        rw [hA, hB, bs_append, bs_append]
        exact how5
    · obtain rfl : i = 64 := by omega
      rw [List.take_of_length_le (by omega), List.take_of_length_le (by omega)] at how
      generalize mixL K 54 = I at *
      generalize mixL K 92 = O at *
      obtain ⟨A5, c5, rfl, _⟩ := how.one.own.len
      obtain ⟨A6, c6, rfl, _⟩ := how.two.own.len
      simp -dsimp -implicitDefEqProofs (disch := first | omega | assumption | (simp only [Option.isSome_some,Qt0]; done) | (simp only [UInt64.reduceToNat,UInt32.reduceToNat,UInt8.reduceToNat,List.length_cons,List.length_nil,List.length_append,Int.toNat_natCast] <;> omega)) only [Nat.reduceLT,Nat.reduceLeDiff,Nat.reduceEqDiff,↓reduceIte,Int.reduceLT,Int.reduceLE,Int.reduceToNat,Int.reduceEq,Int.reduceNe,Nat.reduceAdd,UInt8.reduceOfNat,UInt16.reduceOfNat,UInt32.reduceOfNat,UInt64.reduceOfNat,UInt64.reduceToNat,UInt32.reduceToNat,UInt16.reduceToNat,UInt8.reduceToNat,Int.reduceAdd,Int.reduceSub,Int.reduceMul,Nat.reduceMul,Qp0,Ql0,Qe0,f0,f1,f5,f6,f7]
      refine PW_drawn 6 h3 (by kernel_rfl) (by kernel_rfl) (by kernel_rfl) (by kernel_rfl) (by kernel_rfl) (fun c f h hq => by simp only [thenC_panic, thenK_panic, inBlk_panic, thenN_panic, vcRet_panic] at hq) (PH.Le.refl _).sub ?_
      simp -dsimp -implicitDefEqProofs (disch := first | omega | assumption | (simp only [Option.isSome_some,Qt0]; done) | (simp only [UInt64.reduceToNat,UInt32.reduceToNat,UInt8.reduceToNat,List.length_cons,List.length_nil,List.length_append,Int.toNat_natCast] <;> omega)) only [Nat.reduceLT,Nat.reduceLeDiff,Nat.reduceEqDiff,↓reduceIte,Int.reduceLT,Int.reduceLE,Int.reduceToNat,Int.reduceEq,Int.reduceNe,Nat.reduceAdd,UInt8.reduceOfNat,UInt16.reduceOfNat,UInt32.reduceOfNat,UInt64.reduceOfNat,UInt64.reduceToNat,UInt32.reduceToNat,UInt16.reduceToNat,UInt8.reduceToNat,Int.reduceAdd,Int.reduceSub,Int.reduceMul,Nat.reduceMul,Qp0,Ql0,Qe0,f0,f1,f5,f6]
      refine vtext_own Tryz.underlying74 Tryz.underlying5 Tryz.underlying9 (Rs.own how.two.own) how.two.own.nil_zero ?_
      simp -dsimp -implicitDefEqProofs (disch := first | omega | assumption | (simp only [Option.isSome_some,Qt0]; done) | (simp only [UInt64.reduceToNat,UInt32.reduceToNat,UInt8.reduceToNat,List.length_cons,List.length_nil,List.length_append,Int.toNat_natCast] <;> omega)) only [Nat.reduceLT,Nat.reduceLeDiff,Nat.reduceEqDiff,↓reduceIte,Int.reduceLT,Int.reduceLE,Int.reduceToNat,Int.reduceEq,Int.reduceNe,Nat.reduceAdd,UInt8.reduceOfNat,UInt16.reduceOfNat,UInt32.reduceOfNat,UInt64.reduceOfNat,UInt64.reduceToNat,UInt32.reduceToNat,UInt16.reduceToNat,UInt8.reduceToNat,Int.reduceAdd,Int.reduceSub,Int.reduceMul,Nat.reduceMul,Qp0,Ql0,Qe0,f0,f1,f5,f6]
      refine vtext_own Tryz.underlying74 Tryz.underlying5 Tryz.underlying9 (Rs.own how.one.own) how.one.own.nil_zero ?_
      simp -dsimp -implicitDefEqProofs (disch := first | omega | assumption | (simp only [Option.isSome_some,Qt0]; done) | (simp only [UInt64.reduceToNat,UInt32.reduceToNat,UInt8.reduceToNat,List.length_cons,List.length_nil,List.length_append,Int.toNat_natCast] <;> omega)) only [Nat.reduceLT,Nat.reduceLeDiff,Nat.reduceEqDiff,↓reduceIte,Int.reduceLT,Int.reduceLE,Int.reduceToNat,Int.reduceEq,Int.reduceNe,Nat.reduceAdd,UInt8.reduceOfNat,UInt16.reduceOfNat,UInt32.reduceOfNat,UInt64.reduceOfNat,UInt64.reduceToNat,UInt32.reduceToNat,UInt16.reduceToNat,UInt8.reduceToNat,Int.reduceAdd,Int.reduceSub,Int.reduceMul,Nat.reduceMul,Qp0,Ql0,Qe0,f0,f1,f5,f6]
      refine (rdigest_any (I ++ s) (by simp; omega) w0 _).mono ?_
      rintro v h1 ⟨rfl, hz⟩
      rw [hz]
      clear hz h1
      have hdl := Sha.dig_length (I ++ s)
      generalize Sha.dig (I ++ s) = D1 at *
      simp -dsimp -implicitDefEqProofs (disch := first | omega | assumption | (simp only [Option.isSome_some,Qt0]; done) | (simp only [UInt64.reduceToNat,UInt32.reduceToNat,UInt8.reduceToNat,List.length_cons,List.length_nil,List.length_append,Int.toNat_natCast] <;> omega)) only [Nat.reduceLT,Nat.reduceLeDiff,Nat.reduceEqDiff,↓reduceIte,Int.reduceLT,Int.reduceLE,Int.reduceToNat,Int.reduceEq,Int.reduceNe,Nat.reduceAdd,UInt8.reduceOfNat,UInt16.reduceOfNat,UInt32.reduceOfNat,UInt64.reduceOfNat,UInt64.reduceToNat,UInt32.reduceToNat,UInt16.reduceToNat,UInt8.reduceToNat,Int.reduceAdd,Int.reduceSub,Int.reduceMul,Nat.reduceMul,Qp0,Ql0,Qe0,f0,f1,f5,f6]
      refine ⟨(PH.Le.refl _).sub, ?_⟩
      simp -dsimp -implicitDefEqProofs (disch := first | omega | assumption | (simp only [Option.isSome_some,Qt0]; done) | (simp only [UInt64.reduceToNat,UInt32.reduceToNat,UInt8.reduceToNat,List.length_cons,List.length_nil,List.length_append,Int.toNat_natCast] <;> omega)) only [Nat.reduceLT,Nat.reduceLeDiff,Nat.reduceEqDiff,↓reduceIte,Int.reduceLT,Int.reduceLE,Int.reduceToNat,Int.reduceEq,Int.reduceNe,Nat.reduceAdd,UInt8.reduceOfNat,UInt16.reduceOfNat,UInt32.reduceOfNat,UInt64.reduceOfNat,UInt64.reduceToNat,UInt32.reduceToNat,UInt16.reduceToNat,UInt8.reduceToNat,Int.reduceAdd,Int.reduceSub,Int.reduceMul,Nat.reduceMul,Qp0,Ql0,Qe0,f0,f1,f5,f6]
      refine (rdigest_any (O ++ D1) (by simp; omega) w0 _).mono ?_
      rintro v h1 ⟨rfl, hz⟩
      rw [hz]
      clear hz h1
      simp -dsimp -implicitDefEqProofs (disch := first | omega | assumption | (simp only [Option.isSome_some,Qt0]; done) | (simp only [UInt64.reduceToNat,UInt32.reduceToNat,UInt8.reduceToNat,List.length_cons,List.length_nil,List.length_append,Int.toNat_natCast] <;> omega)) only [Nat.reduceLT,Nat.reduceLeDiff,Nat.reduceEqDiff,↓reduceIte,Int.reduceLT,Int.reduceLE,Int.reduceToNat,Int.reduceEq,Int.reduceNe,Nat.reduceAdd,UInt8.reduceOfNat,UInt16.reduceOfNat,UInt32.reduceOfNat,UInt64.reduceOfNat,UInt64.reduceToNat,UInt32.reduceToNat,UInt16.reduceToNat,UInt8.reduceToNat,Int.reduceAdd,Int.reduceSub,Int.reduceMul,Nat.reduceMul,Qp0,Ql0,Qe0,f0,f1,f5,f6]
      refine ⟨(PH.Le.refl _).sub, ?_⟩
      simp -dsimp -implicitDefEqProofs (disch := first | omega | assumption | (simp only [Option.isSome_some,Qt0]; done) | (simp only [UInt64.reduceToNat,UInt32.reduceToNat,UInt8.reduceToNat,List.length_cons,List.length_nil,List.length_append,Int.toNat_natCast] <;> omega)) only [Nat.reduceLT,Nat.reduceLeDiff,Nat.reduceEqDiff,↓reduceIte,Int.reduceLT,Int.reduceLE,Int.reduceToNat,Int.reduceEq,Int.reduceNe,Nat.reduceAdd,UInt8.reduceOfNat,UInt16.reduceOfNat,UInt32.reduceOfNat,UInt64.reduceOfNat,UInt64.reduceToNat,UInt32.reduceToNat,UInt16.reduceToNat,UInt8.reduceToNat,Int.reduceAdd,Int.reduceSub,Int.reduceMul,Nat.reduceMul,Qp0,Ql0,Qe0,f0,f1,f5,f6]
      exact ⟨_, how.one.le, by trivial, rfl⟩
  · have hdI : decide ((64 : Int) < (key.length : Int)) = false := decide_eq_false (by omega)
    obtain rfl := hks hlt
    clear hkd hks hD
    simp -dsimp -implicitDefEqProofs (disch := first | omega | assumption | (simp only [Option.isSome_some,Qt0]; done) | (simp only [UInt64.reduceToNat,UInt32.reduceToNat,UInt8.reduceToNat,List.length_cons,List.length_nil,List.length_append,Int.toNat_natCast] <;> omega)) only [Nat.reduceLT,Nat.reduceLeDiff,Nat.reduceEqDiff,↓reduceIte,Int.reduceLT,Int.reduceLE,Int.reduceToNat,Int.reduceEq,Int.reduceNe,Nat.reduceAdd,UInt8.reduceOfNat,UInt16.reduceOfNat,UInt32.reduceOfNat,UInt64.reduceOfNat,UInt64.reduceToNat,UInt32.reduceToNat,UInt16.reduceToNat,UInt8.reduceToNat,Int.reduceAdd,Int.reduceSub,Int.reduceMul,Nat.reduceMul,Qp0,Ql0,Qe0,hdI]
    refine Does_zero el_u8m (fun b5 hb5 => ?_)
    simp -dsimp -implicitDefEqProofs (disch := first | omega | assumption | (simp only [Option.isSome_some,Qt0]; done) | (simp only [UInt64.reduceToNat,UInt32.reduceToNat,UInt8.reduceToNat,List.length_cons,List.length_nil,List.length_append,Int.toNat_natCast] <;> omega)) only [Nat.reduceLT,Nat.reduceLeDiff,Nat.reduceEqDiff,↓reduceIte,Int.reduceLT,Int.reduceLE,Int.reduceToNat,Int.reduceEq,Int.reduceNe,Nat.reduceAdd,UInt8.reduceOfNat,UInt16.reduceOfNat,UInt32.reduceOfNat,UInt64.reduceOfNat,UInt64.reduceToNat,UInt32.reduceToNat,UInt16.reduceToNat,UInt8.reduceToNat,Int.reduceAdd,Int.reduceSub,Int.reduceMul,Nat.reduceMul,Qp0,Ql0,Qe0]
    refine Does_zero el_u8m (fun b6 hb6 => ?_)
    simp only [PH.new_top] at hb6
    have how : Two h ((h.new b5 ⟨[], 0⟩).new b6 ⟨[], 0⟩) 1 1 (.slice (some ⟨b5, 0, none⟩) 0 0) 0 [] (.slice (some ⟨b6, 0, none⟩) 0 0) 0 [] := ⟨(OwnS.zero 1 hb5).more ((PH.Le.refl _).new _ _ (by simp only [PH.new_top]; omega)), ⟨((PH.Le.refl h).new _ _ hb5).new _ _ (by omega), (OwnS.zero (h := h.new b5 ⟨[], 0⟩) 1 (by simp only [PH.new_top]; omega)).own, fun x e => by cases e; show h.top ≤ b6; omega⟩, fun x e e' => by cases e; cases e'; omega⟩
    generalize (h.new b5 ⟨[], 0⟩).new b6 ⟨[], 0⟩ = h2 at *
    simp -dsimp -implicitDefEqProofs (disch := first | omega | assumption | (simp only [Option.isSome_some,Qt0]; done) | (simp only [UInt64.reduceToNat,UInt32.reduceToNat,UInt8.reduceToNat,List.length_cons,List.length_nil,List.length_append,Int.toNat_natCast] <;> omega)) only [Nat.reduceLT,Nat.reduceLeDiff,Nat.reduceEqDiff,↓reduceIte,Int.reduceLT,Int.reduceLE,Int.reduceToNat,Int.reduceEq,Int.reduceNe,Nat.reduceAdd,UInt8.reduceOfNat,UInt16.reduceOfNat,UInt32.reduceOfNat,UInt64.reduceOfNat,UInt64.reduceToNat,UInt32.reduceToNat,UInt16.reduceToNat,UInt8.reduceToNat,Int.reduceAdd,Int.reduceSub,Int.reduceMul,Nat.reduceMul,Qp0,Ql0,Qe0]
    refine PW_loop (fun n f h' => ∃ (i : Nat) (v u : Value), i + n = 64 ∧ f 0 = some (str K) ∧ f 1 = some (str s) ∧ f 5 = some v ∧ f 6 = some u ∧ f 7 = some (.int .i64 i) ∧ Two h h' 1 1 v i (bs ((mixL K 54).take i)) u i (bs ((mixL K 92).take i))) (by kernel_rfl) 64 ⟨0, _, _, by omega, ?_, ?_, ?_, ?_, ?_, how⟩ ?_
    · simp -dsimp -implicitDefEqProofs (disch := first | omega | assumption | (simp only [Option.isSome_some,Qt0]; done) | (simp only [UInt64.reduceToNat,UInt32.reduceToNat,UInt8.reduceToNat,List.length_cons,List.length_nil,List.length_append,Int.toNat_natCast] <;> omega)) only [Nat.reduceLT,Nat.reduceLeDiff,Nat.reduceEqDiff,↓reduceIte,Int.reduceLT,Int.reduceLE,Int.reduceToNat,Int.reduceEq,Int.reduceNe,Nat.reduceAdd,UInt8.reduceOfNat,UInt16.reduceOfNat,UInt32.reduceOfNat,UInt64.reduceOfNat,UInt64.reduceToNat,UInt32.reduceToNat,UInt16.reduceToNat,UInt8.reduceToNat,Int.reduceAdd,Int.reduceSub,Int.reduceMul,Nat.reduceMul,Qp0,Ql0,Qe0]
    · simp -dsimp -implicitDefEqProofs (disch := first | omega | assumption | (simp only [Option.isSome_some,Qt0]; done) | (simp only [UInt64.reduceToNat,UInt32.reduceToNat,UInt8.reduceToNat,List.length_cons,List.length_nil,List.length_append,Int.toNat_natCast] <;> omega)) only [Nat.reduceLT,Nat.reduceLeDiff,Nat.reduceEqDiff,↓reduceIte,Int.reduceLT,Int.reduceLE,Int.reduceToNat,Int.reduceEq,Int.reduceNe,Nat.reduceAdd,UInt8.reduceOfNat,UInt16.reduceOfNat,UInt32.reduceOfNat,UInt64.reduceOfNat,UInt64.reduceToNat,UInt32.reduceToNat,UInt16.reduceToNat,UInt8.reduceToNat,Int.reduceAdd,Int.reduceSub,Int.reduceMul,Nat.reduceMul,Qp0,Ql0,Qe0]
    · simp -dsimp -implicitDefEqProofs (disch := first | omega | assumption | (simp only [Option.isSome_some,Qt0]; done) | (simp only [UInt64.reduceToNat,UInt32.reduceToNat,UInt8.reduceToNat,List.length_cons,List.length_nil,List.length_append,Int.toNat_natCast] <;> omega)) only [Nat.reduceLT,Nat.reduceLeDiff,Nat.reduceEqDiff,↓reduceIte,Int.reduceLT,Int.reduceLE,Int.reduceToNat,Int.reduceEq,Int.reduceNe,Nat.reduceAdd,UInt8.reduceOfNat,UInt16.reduceOfNat,UInt32.reduceOfNat,UInt64.reduceOfNat,UInt64.reduceToNat,UInt32.reduceToNat,UInt16.reduceToNat,UInt8.reduceToNat,Int.reduceAdd,Int.reduceSub,Int.reduceMul,Nat.reduceMul,Qp0,Ql0,Qe0]
    · simp -dsimp -implicitDefEqProofs (disch := first | omega | assumption | (simp only [Option.isSome_some,Qt0]; done) | (simp only [UInt64.reduceToNat,UInt32.reduceToNat,UInt8.reduceToNat,List.length_cons,List.length_nil,List.length_append,Int.toNat_natCast] <;> omega)) only [Nat.reduceLT,Nat.reduceLeDiff,Nat.reduceEqDiff,↓reduceIte,Int.reduceLT,Int.reduceLE,Int.reduceToNat,Int.reduceEq,Int.reduceNe,Nat.reduceAdd,UInt8.reduceOfNat,UInt16.reduceOfNat,UInt32.reduceOfNat,UInt64.reduceOfNat,UInt64.reduceToNat,UInt32.reduceToNat,UInt16.reduceToNat,UInt8.reduceToNat,Int.reduceAdd,Int.reduceSub,Int.reduceMul,Nat.reduceMul,Qp0,Ql0,Qe0]
    · simp -dsimp -implicitDefEqProofs (disch := first | omega | assumption | (simp only [Option.isSome_some,Qt0]; done) | (simp only [UInt64.reduceToNat,UInt32.reduceToNat,UInt8.reduceToNat,List.length_cons,List.length_nil,List.length_append,Int.toNat_natCast] <;> omega)) only [Nat.reduceLT,Nat.reduceLeDiff,Nat.reduceEqDiff,↓reduceIte,Int.reduceLT,Int.reduceLE,Int.reduceToNat,Int.reduceEq,Int.reduceNe,Nat.reduceAdd,UInt8.reduceOfNat,UInt16.reduceOfNat,UInt32.reduceOfNat,UInt64.reduceOfNat,UInt64.reduceToNat,UInt32.reduceToNat,UInt16.reduceToNat,UInt8.reduceToNat,Int.reduceAdd,Int.reduceSub,Int.reduceMul,Nat.reduceMul,Qp0,Ql0,Qe0]
      try rfl
    clear how h2
    rintro n f h3 ⟨i, v, u, hin, f0, f1, f5, f6, f7, how⟩
    by_cases hi : i < 64
    · have hiI : decide ((i : Int) < 64) = true := decide_eq_true (by omega)
      obtain ⟨c, hc⟩ : ∃ c, (padKey K).getD i 0 = c := ⟨_, rfl⟩
      have hA := mixL_next K 54 i (by omega)
      have hB := mixL_next K 92 i (by omega)
      rw [hc] at hA hB
      by_cases hik : i < K.length
      · have hikI : decide ((i : Int) < (K.length : Int)) = true := decide_eq_true (by omega)
        have hcK : K.getD i 0 = c := by rw [← hc, padKey_get K i hik]
        simp -dsimp -implicitDefEqProofs (disch := first | omega | assumption | (simp only [Option.isSome_some,Qt0]; done) | (simp only [UInt64.reduceToNat,UInt32.reduceToNat,UInt8.reduceToNat,List.length_cons,List.length_nil,List.length_append,Int.toNat_natCast] <;> omega)) only [Nat.reduceLT,Nat.reduceLeDiff,Nat.reduceEqDiff,↓reduceIte,Int.reduceLT,Int.reduceLE,Int.reduceToNat,Int.reduceEq,Int.reduceNe,Nat.reduceAdd,UInt8.reduceOfNat,UInt16.reduceOfNat,UInt32.reduceOfNat,UInt64.reduceOfNat,UInt64.reduceToNat,UInt32.reduceToNat,UInt16.reduceToNat,UInt8.reduceToNat,Int.reduceAdd,Int.reduceSub,Int.reduceMul,Nat.reduceMul,Qp0,Ql0,Qe0,f0,f1,f5,f6,f7,hiI,hikI,hcK]
        refine Does_one (v := u8 _) el_u8m rfl (by omega) (fun gb hgb => ?_)
        simp -dsimp -implicitDefEqProofs (disch := first | omega | assumption | (simp only [Option.isSome_some,Qt0]; done) | (simp only [UInt64.reduceToNat,UInt32.reduceToNat,UInt8.reduceToNat,List.length_cons,List.length_nil,List.length_append,Int.toNat_natCast] <;> omega)) only [Nat.reduceLT,Nat.reduceLeDiff,Nat.reduceEqDiff,↓reduceIte,Int.reduceLT,Int.reduceLE,Int.reduceToNat,Int.reduceEq,Int.reduceNe,Nat.reduceAdd,UInt8.reduceOfNat,UInt16.reduceOfNat,UInt32.reduceOfNat,UInt64.reduceOfNat,UInt64.reduceToNat,UInt32.reduceToNat,UInt16.reduceToNat,UInt8.reduceToNat,Int.reduceAdd,Int.reduceSub,Int.reduceMul,Nat.reduceMul,Qp0,Ql0,Qe0,f0,f1,f5,f6,f7]
        refine Does_app el_u8m (how.more ((PH.Le.refl _).new _ _ hgb)).one.own (Rs.blk (k := ⟨bs [_], 1⟩) (by rw [PH.new_m, if_pos rfl]; rfl) rfl) (bs_one _) (by unfold maxLen; omega) (by omega) (fun v4 h4 ho hst => ?_)
        have how4 := (how.more ((PH.Le.refl _).new _ _ hgb)).stays hst ho
        simp -dsimp -implicitDefEqProofs (disch := first | omega | assumption | (simp only [Option.isSome_some,Qt0]; done) | (simp only [UInt64.reduceToNat,UInt32.reduceToNat,UInt8.reduceToNat,List.length_cons,List.length_nil,List.length_append,Int.toNat_natCast] <;> omega)) only [Nat.reduceLT,Nat.reduceLeDiff,Nat.reduceEqDiff,↓reduceIte,Int.reduceLT,Int.reduceLE,Int.reduceToNat,Int.reduceEq,Int.reduceNe,Nat.reduceAdd,UInt8.reduceOfNat,UInt16.reduceOfNat,UInt32.reduceOfNat,UInt64.reduceOfNat,UInt64.reduceToNat,UInt32.reduceToNat,UInt16.reduceToNat,UInt8.reduceToNat,Int.reduceAdd,Int.reduceSub,Int.reduceMul,Nat.reduceMul,Qp0,Ql0,Qe0,f0,f1,f5,f6,f7]
        refine Does_one (v := u8 _) el_u8m rfl (by omega) (fun gc hgc => ?_)
        simp -dsimp -implicitDefEqProofs (disch := first | omega | assumption | (simp only [Option.isSome_some,Qt0]; done) | (simp only [UInt64.reduceToNat,UInt32.reduceToNat,UInt8.reduceToNat,List.length_cons,List.length_nil,List.length_append,Int.toNat_natCast] <;> omega)) only [Nat.reduceLT,Nat.reduceLeDiff,Nat.reduceEqDiff,↓reduceIte,Int.reduceLT,Int.reduceLE,Int.reduceToNat,Int.reduceEq,Int.reduceNe,Nat.reduceAdd,UInt8.reduceOfNat,UInt16.reduceOfNat,UInt32.reduceOfNat,UInt64.reduceOfNat,UInt64.reduceToNat,UInt32.reduceToNat,UInt16.reduceToNat,UInt8.reduceToNat,Int.reduceAdd,Int.reduceSub,Int.reduceMul,Nat.reduceMul,Qp0,Ql0,Qe0,f0,f1,f5,f6,f7]
        refine Does_app el_u8m (how4.more ((PH.Le.refl _).new _ _ hgc)).two.own (Rs.blk (k := ⟨bs [_], 1⟩) (by rw [PH.new_m, if_pos rfl]; rfl) rfl) (bs_one _) (by unfold maxLen; omega) (by omega) (fun v5 h5 ho hst => ?_)
        have how5 := ((how4.more ((PH.Le.refl _).new _ _ hgc)).swap.stays hst ho).swap
        simp -dsimp -implicitDefEqProofs (disch := first | omega | assumption | (simp only [Option.isSome_some,Qt0]; done) | (simp only [UInt64.reduceToNat,UInt32.reduceToNat,UInt8.reduceToNat,List.length_cons,List.length_nil,List.length_append,Int.toNat_natCast] <;> omega)) only [Nat.reduceLT,Nat.reduceLeDiff,Nat.reduceEqDiff,↓reduceIte,Int.reduceLT,Int.reduceLE,Int.reduceToNat,Int.reduceEq,Int.reduceNe,Nat.reduceAdd,UInt8.reduceOfNat,UInt16.reduceOfNat,UInt32.reduceOfNat,UInt64.reduceOfNat,UInt64.reduceToNat,UInt32.reduceToNat,UInt16.reduceToNat,UInt8.reduceToNat,Int.reduceAdd,Int.reduceSub,Int.reduceMul,Nat.reduceMul,Qp0,Ql0,Qe0,f0,f1,f5,f6,f7]
        refine ⟨n - 1, h5, by omega, PH.Le.refl _, i + 1, v4, v5, by omega, by trivial, by trivial, by trivial, by trivial, by simp, ?_⟩
        rw [hA, hB, bs_append, bs_append]
        exact how5
      · have hikI : decide ((i : Int) < (K.length : Int)) = false := decide_eq_false (by omega)
        obtain rfl : c = 0 := by rw [← hc, padKey_zero K i (by omega)]
        simp -dsimp -implicitDefEqProofs (disch := first | omega | assumption | (simp only [Option.isSome_some,Qt0]; done) | (simp only [UInt64.reduceToNat,UInt32.reduceToNat,UInt8.reduceToNat,List.length_cons,List.length_nil,List.length_append,Int.toNat_natCast] <;> omega)) only [Nat.reduceLT,Nat.reduceLeDiff,Nat.reduceEqDiff,↓reduceIte,Int.reduceLT,Int.reduceLE,Int.reduceToNat,Int.reduceEq,Int.reduceNe,Nat.reduceAdd,UInt8.reduceOfNat,UInt16.reduceOfNat,UInt32.reduceOfNat,UInt64.reduceOfNat,UInt64.reduceToNat,UInt32.reduceToNat,UInt16.reduceToNat,UInt8.reduceToNat,Int.reduceAdd,Int.reduceSub,Int.reduceMul,Nat.reduceMul,Qp0,Ql0,Qe0,f0,f1,f5,f6,f7,hiI,hikI]
        refine Does_one (v := u8 _) el_u8m rfl (by omega) (fun gb hgb => ?_)
        simp -dsimp -implicitDefEqProofs (disch := first | omega | assumption | (simp only [Option.isSome_some,Qt0]; done) | (simp only [UInt64.reduceToNat,UInt32.reduceToNat,UInt8.reduceToNat,List.length_cons,List.length_nil,List.length_append,Int.toNat_natCast] <;> omega)) only [Nat.reduceLT,Nat.reduceLeDiff,Nat.reduceEqDiff,↓reduceIte,Int.reduceLT,Int.reduceLE,Int.reduceToNat,Int.reduceEq,Int.reduceNe,Nat.reduceAdd,UInt8.reduceOfNat,UInt16.reduceOfNat,UInt32.reduceOfNat,UInt64.reduceOfNat,UInt64.reduceToNat,UInt32.reduceToNat,UInt16.reduceToNat,UInt8.reduceToNat,Int.reduceAdd,Int.reduceSub,Int.reduceMul,Nat.reduceMul,Qp0,Ql0,Qe0,f0,f1,f5,f6,f7]
        refine Does_app el_u8m (how.more ((PH.Le.refl _).new _ _ hgb)).one.own (Rs.blk (k := ⟨bs [_], 1⟩) (by rw [PH.new_m, if_pos rfl]; rfl) rfl) (bs_one _) (by unfold maxLen; omega) (by omega) (fun v4 h4 ho hst => ?_)
        have how4 := (how.more ((PH.Le.refl _).new _ _ hgb)).stays hst ho
        simp -dsimp -implicitDefEqProofs (disch := first | omega | assumption | (simp only [Option.isSome_some,Qt0]; done) | (simp only [UInt64.reduceToNat,UInt32.reduceToNat,UInt8.reduceToNat,List.length_cons,List.length_nil,List.length_append,Int.toNat_natCast] <;> omega)) only [Nat.reduceLT,Nat.reduceLeDiff,Nat.reduceEqDiff,↓reduceIte,Int.reduceLT,Int.reduceLE,Int.reduceToNat,Int.reduceEq,Int.reduceNe,Nat.reduceAdd,UInt8.reduceOfNat,UInt16.reduceOfNat,UInt32.reduceOfNat,UInt64.reduceOfNat,UInt64.reduceToNat,UInt32.reduceToNat,UInt16.reduceToNat,UInt8.reduceToNat,Int.reduceAdd,Int.reduceSub,Int.reduceMul,Nat.reduceMul,Qp0,Ql0,Qe0,f0,f1,f5,f6,f7]
        refine Does_one (v := u8 _) el_u8m rfl (by omega) (fun gc hgc => ?_)
        simp -dsimp -implicitDefEqProofs (disch := first | omega | assumption | (simp only [Option.isSome_some,Qt0]; done) | (simp only [UInt64.reduceToNat,UInt32.reduceToNat,UInt8.reduceToNat,List.length_cons,List.length_nil,List.length_append,Int.toNat_natCast] <;> omega)) only [Nat.reduceLT,Nat.reduceLeDiff,Nat.reduceEqDiff,↓reduceIte,Int.reduceLT,Int.reduceLE,Int.reduceToNat,Int.reduceEq,Int.reduceNe,Nat.reduceAdd,UInt8.reduceOfNat,UInt16.reduceOfNat,UInt32.reduceOfNat,UInt64.reduceOfNat,UInt64.reduceToNat,UInt32.reduceToNat,UInt16.reduceToNat,UInt8.reduceToNat,Int.reduceAdd,Int.reduceSub,Int.reduceMul,Nat.reduceMul,Qp0,Ql0,Qe0,f0,f1,f5,f6,f7]
        refine Does_app el_u8m (how4.more ((PH.Le.refl _).new _ _ hgc)).two.own (Rs.blk (k := ⟨bs [_], 1⟩) (by rw [PH.new_m, if_pos rfl]; rfl) rfl) (bs_one _) (by unfold maxLen; omega) (by omega) (fun v5 h5 ho hst => ?_)
        have how5 := ((how4.more ((PH.Le.refl _).new _ _ hgc)).swap.stays hst ho).swap
        simp -dsimp -implicitDefEqProofs (disch := first | omega | assumption | (simp only [Option.isSome_some,Qt0]; done) | (simp only [UInt64.reduceToNat,UInt32.reduceToNat,UInt8.reduceToNat,List.length_cons,List.length_nil,List.length_append,Int.toNat_natCast] <;> omega)) only [Nat.reduceLT,Nat.reduceLeDiff,Nat.reduceEqDiff,↓reduceIte,Int.reduceLT,Int.reduceLE,Int.reduceToNat,Int.reduceEq,Int.reduceNe,Nat.reduceAdd,UInt8.reduceOfNat,UInt16.reduceOfNat,UInt32.reduceOfNat,UInt64.reduceOfNat,UInt64.reduceToNat,UInt32.reduceToNat,UInt16.reduceToNat,UInt8.reduceToNat,Int.reduceAdd,Int.reduceSub,Int.reduceMul,Nat.reduceMul,Qp0,Ql0,Qe0,f0,f1,f5,f6,f7]
        refine ⟨n - 1, h5, by omega, PH.Le.refl _, i + 1, v4, v5, by omega, by trivial, by trivial, by trivial, by trivial, by simp, ?_⟩
        rw [hA, hB, bs_append, bs_append]
        exact how5
    · obtain rfl : i = 64 := by omega
      rw [List.take_of_length_le (by omega), List.take_of_length_le (by omega)] at how
      generalize mixL K 54 = I at *
      generalize mixL K 92 = O at *
      obtain ⟨A5, c5, rfl, _⟩ := how.one.own.len
      obtain ⟨A6, c6, rfl, _⟩ := how.two.own.len
      simp -dsimp -implicitDefEqProofs (disch := first | omega | assumption | (simp only [Option.isSome_some,Qt0]; done) | (simp only [UInt64.reduceToNat,UInt32.reduceToNat,UInt8.reduceToNat,List.length_cons,List.length_nil,List.length_append,Int.toNat_natCast] <;> omega)) only [Nat.reduceLT,Nat.reduceLeDiff,Nat.reduceEqDiff,↓reduceIte,Int.reduceLT,Int.reduceLE,Int.reduceToNat,Int.reduceEq,Int.reduceNe,Nat.reduceAdd,UInt8.reduceOfNat,UInt16.reduceOfNat,UInt32.reduceOfNat,UInt64.reduceOfNat,UInt64.reduceToNat,UInt32.reduceToNat,UInt16.reduceToNat,UInt8.reduceToNat,Int.reduceAdd,Int.reduceSub,Int.reduceMul,Nat.reduceMul,Qp0,Ql0,Qe0,f0,f1,f5,f6,f7]
      refine PW_drawn 6 h3 (by kernel_rfl) (by kernel_rfl) (by kernel_rfl) (by kernel_rfl) (by kernel_rfl) (fun c f h hq => by simp only [thenC_panic, thenK_panic, inBlk_panic, thenN_panic, vcRet_panic] at hq) (PH.Le.refl _).sub ?_
      simp -dsimp -implicitDefEqProofs (disch := first | omega | assumption | (simp only [Option.isSome_some,Qt0]; done) | (simp only [UInt64.reduceToNat,UInt32.reduceToNat,UInt8.reduceToNat,List.length_cons,List.length_nil,List.length_append,Int.toNat_natCast] <;> omega)) only [Nat.reduceLT,Nat.reduceLeDiff,Nat.reduceEqDiff,↓reduceIte,Int.reduceLT,Int.reduceLE,Int.reduceToNat,Int.reduceEq,Int.reduceNe,Nat.reduceAdd,UInt8.reduceOfNat,UInt16.reduceOfNat,UInt32.reduceOfNat,UInt64.reduceOfNat,UInt64.reduceToNat,UInt32.reduceToNat,UInt16.reduceToNat,UInt8.reduceToNat,Int.reduceAdd,Int.reduceSub,Int.reduceMul,Nat.reduceMul,Qp0,Ql0,Qe0,f0,f1,f5,f6]
      refine vtext_own Tryz.underlying74 Tryz.underlying5 Tryz.underlying9 (Rs.own how.two.own) how.two.own.nil_zero ?_
      simp -dsimp -implicitDefEqProofs (disch := first | omega | assumption | (simp only [Option.isSome_some,Qt0]; done) | (simp only [UInt64.reduceToNat,UInt32.reduceToNat,UInt8.reduceToNat,List.length_cons,List.length_nil,List.length_append,Int.toNat_natCast] <;> omega)) only [Nat.reduceLT,Nat.reduceLeDiff,Nat.reduceEqDiff,↓reduceIte,Int.reduceLT,Int.reduceLE,Int.reduceToNat,Int.reduceEq,Int.reduceNe,Nat.reduceAdd,UInt8.reduceOfNat,UInt16.reduceOfNat,UInt32.reduceOfNat,UInt64.reduceOfNat,UInt64.reduceToNat,UInt32.reduceToNat,UInt16.reduceToNat,UInt8.reduceToNat,Int.reduceAdd,Int.reduceSub,Int.reduceMul,Nat.reduceMul,Qp0,Ql0,Qe0,f0,f1,f5,f6]
      refine vtext_own Tryz.underlying74 Tryz.underlying5 Tryz.underlying9 (Rs.own how.one.own) how.one.own.nil_zero ?_
      simp -dsimp -implicitDefEqProofs (disch := first | omega | assumption | (simp only [Option.isSome_some,Qt0]; done) | (simp only [UInt64.reduceToNat,UInt32.reduceToNat,UInt8.reduceToNat,List.length_cons,List.length_nil,List.length_append,Int.toNat_natCast] <;> omega)) only [Nat.reduceLT,Nat.reduceLeDiff,Nat.reduceEqDiff,↓reduceIte,Int.reduceLT,Int.reduceLE,Int.reduceToNat,Int.reduceEq,Int.reduceNe,Nat.reduceAdd,UInt8.reduceOfNat,UInt16.reduceOfNat,UInt32.reduceOfNat,UInt64.reduceOfNat,UInt64.reduceToNat,UInt32.reduceToNat,UInt16.reduceToNat,UInt8.reduceToNat,Int.reduceAdd,Int.reduceSub,Int.reduceMul,Nat.reduceMul,Qp0,Ql0,Qe0,f0,f1,f5,f6]
      refine (rdigest_any (I ++ s) (by simp; omega) w0 _).mono ?_
      rintro v h1 ⟨rfl, hz⟩
      rw [hz]
      clear hz h1
      have hdl := Sha.dig_length (I ++ s)
      generalize Sha.dig (I ++ s) = D1 at *
      simp -dsimp -implicitDefEqProofs (disch := first | omega | assumption | (simp only [Option.isSome_some,Qt0]; done) | (simp only [UInt64.reduceToNat,UInt32.reduceToNat,UInt8.reduceToNat,List.length_cons,List.length_nil,List.length_append,Int.toNat_natCast] <;> omega)) only [Nat.reduceLT,Nat.reduceLeDiff,Nat.reduceEqDiff,↓reduceIte,Int.reduceLT,Int.reduceLE,Int.reduceToNat,Int.reduceEq,Int.reduceNe,Nat.reduceAdd,UInt8.reduceOfNat,UInt16.reduceOfNat,UInt32.reduceOfNat,UInt64.reduceOfNat,UInt64.reduceToNat,UInt32.reduceToNat,UInt16.reduceToNat,UInt8.reduceToNat,Int.reduceAdd,Int.reduceSub,Int.reduceMul,Nat.reduceMul,Qp0,Ql0,Qe0,f0,f1,f5,f6]
      refine ⟨(PH.Le.refl _).sub, ?_⟩
      simp -dsimp -implicitDefEqProofs (disch := first | omega | assumption | (simp only [Option.isSome_some,Qt0]; done) | (simp only [UInt64.reduceToNat,UInt32.reduceToNat,UInt8.reduceToNat,List.length_cons,List.length_nil,List.length_append,Int.toNat_natCast] <;> omega)) only [Nat.reduceLT,Nat.reduceLeDiff,Nat.reduceEqDiff,↓reduceIte,Int.reduceLT,Int.reduceLE,Int.reduceToNat,Int.reduceEq,Int.reduceNe,Nat.reduceAdd,UInt8.reduceOfNat,UInt16.reduceOfNat,UInt32.reduceOfNat,UInt64.reduceOfNat,UInt64.reduceToNat,UInt32.reduceToNat,UInt16.reduceToNat,UInt8.reduceToNat,Int.reduceAdd,Int.reduceSub,Int.reduceMul,Nat.reduceMul,Qp0,Ql0,Qe0,f0,f1,f5,f6]
      refine (rdigest_any (O ++ D1) (by simp; omega) w0 _).mono ?_
      rintro v h1 ⟨rfl, hz⟩
      rw [hz]
      clear hz h1
      simp -dsimp -implicitDefEqProofs (disch := first | omega | assumption | (simp only [Option.isSome_some,Qt0]; done) | (simp only [UInt64.reduceToNat,UInt32.reduceToNat,UInt8.reduceToNat,List.length_cons,List.length_nil,List.length_append,Int.toNat_natCast] <;> omega)) only [Nat.reduceLT,Nat.reduceLeDiff,Nat.reduceEqDiff,↓reduceIte,Int.reduceLT,Int.reduceLE,Int.reduceToNat,Int.reduceEq,Int.reduceNe,Nat.reduceAdd,UInt8.reduceOfNat,UInt16.reduceOfNat,UInt32.reduceOfNat,UInt64.reduceOfNat,UInt64.reduceToNat,UInt32.reduceToNat,UInt16.reduceToNat,UInt8.reduceToNat,Int.reduceAdd,Int.reduceSub,Int.reduceMul,Nat.reduceMul,Qp0,Ql0,Qe0,f0,f1,f5,f6]
      refine ⟨(PH.Le.refl _).sub, ?_⟩
      simp -dsimp -implicitDefEqProofs (disch := first | omega | assumption | (simp only [Option.isSome_some,Qt0]; done) | (simp only [UInt64.reduceToNat,UInt32.reduceToNat,UInt8.reduceToNat,List.length_cons,List.length_nil,List.length_append,Int.toNat_natCast] <;> omega)) only [Nat.reduceLT,Nat.reduceLeDiff,Nat.reduceEqDiff,↓reduceIte,Int.reduceLT,Int.reduceLE,Int.reduceToNat,Int.reduceEq,Int.reduceNe,Nat.reduceAdd,UInt8.reduceOfNat,UInt16.reduceOfNat,UInt32.reduceOfNat,UInt64.reduceOfNat,UInt64.reduceToNat,UInt32.reduceToNat,UInt16.reduceToNat,UInt8.reduceToNat,Int.reduceAdd,Int.reduceSub,Int.reduceMul,Nat.reduceMul,Qp0,Ql0,Qe0,f0,f1,f5,f6]
      exact ⟨_, how.one.le, by trivial, rfl⟩
end Go.Proofs.YtdlaoeepeakpeaaGreat


/- Walks of the program's and the reference's Derive: the key of a number. -/
namespace Go.Proofs.YtdlaoeepeakpeaaGreat
set_option linter.unusedVariables false
set_option linter.unusedSimpArgs false
open Go.RowKit Px
def derive (m : List UInt8) (n : Int) : List UInt8 := tag m ([107, 101, 121] ++ Sha.be 8 (UInt64.ofInt n).toNat)
set_option maxRecDepth 20000 in
theorem derive_any (m : List UInt8) (n : Int) (hm : m.length ≤ 900000) (w0 : World) (h : PH) : PCalls Tryz.prog w0 48 [str m, .int .i64 n] h fun v h' => v = str (derive m n) ∧ h' = h := by
  refine PCalls_body Tryz.func48 (by kernel_rfl) rfl _ Tryz.ntmps48 (by kernel_rfl) (by kernel_rfl) _ Tryz.results48 ?_
  simp -dsimp -implicitDefEqProofs (disch := first | omega | assumption | (simp only [Option.isSome_some,Qt0]; done) | (simp only [List.length_cons,List.length_nil,List.length_append,Int.toNat_natCast] <;> omega)) only [Nat.reduceLT,Nat.reduceLeDiff,Nat.reduceEqDiff,↓reduceIte,Int.reduceLT,Int.reduceLE,Int.reduceToNat,Int.reduceEq,Int.reduceNe,Nat.reduceAdd,Int.reduceAdd,Int.reduceSub,Int.reduceMul,Nat.reduceMul,Qp0,Ql0,Qe0]
  refine (eight_any (UInt64.ofInt n) w0 _).mono ?_
  rintro v h1 ⟨b, rfl, hb, rfl⟩
  simp -dsimp -implicitDefEqProofs (disch := first | omega | assumption | (simp only [Option.isSome_some,Qt0]; done) | (simp only [List.length_cons,List.length_nil,List.length_append,Int.toNat_natCast] <;> omega)) only [Nat.reduceLT,Nat.reduceLeDiff,Nat.reduceEqDiff,↓reduceIte,Int.reduceLT,Int.reduceLE,Int.reduceToNat,Int.reduceEq,Int.reduceNe,Nat.reduceAdd,Int.reduceAdd,Int.reduceSub,Int.reduceMul,Nat.reduceMul,Qp0,Ql0,Qe0]
  refine vtext_own Tryz.underlying74 Tryz.underlying5 Tryz.underlying9 (Rs.blk (k := ⟨bs (Sha.be 8 (UInt64.ofInt n).toNat), 8⟩) (by rw [PH.new_m, if_pos rfl]) (by simp only [bs_length, Sha.be_length])) (fun e => by cases e) ?_
  have hl := Sha.be_length 8 (UInt64.ofInt n).toNat
  have ht := Lib.hid (@tag_any m ([107, 101, 121] ++ Sha.be 8 (UInt64.ofInt n).toNat) hm (by simp [hl]) w0 (h.new b ⟨bs (Sha.be 8 (UInt64.ofInt n).toNat), 8⟩))
  have hle : PH.Le h (h.new b ⟨bs (Sha.be 8 (UInt64.ofInt n).toNat), 8⟩) := (PH.Le.refl h).new _ _ hb
  have hd : tag m ([107, 101, 121] ++ Sha.be 8 (UInt64.ofInt n).toNat) = derive m n := rfl
  rw [hd] at ht
  clear hd
  generalize Sha.be 8 (UInt64.ofInt n).toNat = B at *
  simp -dsimp -implicitDefEqProofs (disch := first | omega | assumption | (simp only [Option.isSome_some,Qt0]; done) | (simp only [List.length_cons,List.length_nil,List.length_append,Int.toNat_natCast] <;> omega)) only [Nat.reduceLT,Nat.reduceLeDiff,Nat.reduceEqDiff,↓reduceIte,Int.reduceLT,Int.reduceLE,Int.reduceToNat,Int.reduceEq,Int.reduceNe,Nat.reduceAdd,Int.reduceAdd,Int.reduceSub,Int.reduceMul,Nat.reduceMul,Qp0,Ql0,Qe0]
  refine ht.out.mono ?_
  rintro v h2 ⟨rfl, rfl⟩
  simp -dsimp -implicitDefEqProofs (disch := first | omega | assumption | (simp only [Option.isSome_some,Qt0]; done) | (simp only [List.length_cons,List.length_nil,List.length_append,Int.toNat_natCast] <;> omega)) only [Nat.reduceLT,Nat.reduceLeDiff,Nat.reduceEqDiff,↓reduceIte,Int.reduceLT,Int.reduceLE,Int.reduceToNat,Int.reduceEq,Int.reduceNe,Nat.reduceAdd,Int.reduceAdd,Int.reduceSub,Int.reduceMul,Nat.reduceMul,Qp0,Ql0,Qe0]
  exact ⟨_, hle, by trivial, rfl⟩
set_option maxRecDepth 20000 in
theorem rderive_any (m : List UInt8) (n : Int) (hm : m.length ≤ 900000) (w0 : World) (h : PH) : PCalls Tryz.prog w0 41 [str m, .int .i64 n] h fun v h' => v = str (derive m n) ∧ h' = h := by
  refine PCalls_body Tryz.func41 (by kernel_rfl) rfl _ Tryz.ntmps41 (by kernel_rfl) (by kernel_rfl) _ Tryz.results41 ?_
  simp -dsimp -implicitDefEqProofs (disch := first | omega | assumption | (simp only [Option.isSome_some,Qt0]; done) | (simp only [List.length_cons,List.length_nil,List.length_append,Int.toNat_natCast] <;> omega)) only [Nat.reduceLT,Nat.reduceLeDiff,Nat.reduceEqDiff,↓reduceIte,Int.reduceLT,Int.reduceLE,Int.reduceToNat,Int.reduceEq,Int.reduceNe,Nat.reduceAdd,Int.reduceAdd,Int.reduceSub,Int.reduceMul,Nat.reduceMul,Qp0,Ql0,Qe0]
  refine (mnum_any (UInt64.ofInt n) 8 (.inr rfl) w0 _).mono ?_
  rintro v h1 ⟨b, rfl, hb, rfl⟩
  simp -dsimp -implicitDefEqProofs (disch := first | omega | assumption | (simp only [Option.isSome_some,Qt0]; done) | (simp only [List.length_cons,List.length_nil,List.length_append,Int.toNat_natCast] <;> omega)) only [Nat.reduceLT,Nat.reduceLeDiff,Nat.reduceEqDiff,↓reduceIte,Int.reduceLT,Int.reduceLE,Int.reduceToNat,Int.reduceEq,Int.reduceNe,Nat.reduceAdd,Int.reduceAdd,Int.reduceSub,Int.reduceMul,Nat.reduceMul,Qp0,Ql0,Qe0]
  refine vtext_own Tryz.underlying74 Tryz.underlying5 Tryz.underlying9 (Rs.blk (k := ⟨bs (Sha.be 8 (UInt64.ofInt n).toNat), 8⟩) (by rw [PH.new_m, if_pos rfl]) (by simp only [bs_length, Sha.be_length])) (fun e => by cases e) ?_
  have hl := Sha.be_length 8 (UInt64.ofInt n).toNat
  have ht := Lib.hid (@rtag_any m ([107, 101, 121] ++ Sha.be 8 (UInt64.ofInt n).toNat) hm (by simp [hl]) w0 (h.new b ⟨bs (Sha.be 8 (UInt64.ofInt n).toNat), 8⟩))
  have hle : PH.Le h (h.new b ⟨bs (Sha.be 8 (UInt64.ofInt n).toNat), 8⟩) := (PH.Le.refl h).new _ _ hb
  have hd : tag m ([107, 101, 121] ++ Sha.be 8 (UInt64.ofInt n).toNat) = derive m n := rfl
  rw [hd] at ht
  clear hd
  generalize Sha.be 8 (UInt64.ofInt n).toNat = B at *
  simp -dsimp -implicitDefEqProofs (disch := first | omega | assumption | (simp only [Option.isSome_some,Qt0]; done) | (simp only [List.length_cons,List.length_nil,List.length_append,Int.toNat_natCast] <;> omega)) only [Nat.reduceLT,Nat.reduceLeDiff,Nat.reduceEqDiff,↓reduceIte,Int.reduceLT,Int.reduceLE,Int.reduceToNat,Int.reduceEq,Int.reduceNe,Nat.reduceAdd,Int.reduceAdd,Int.reduceSub,Int.reduceMul,Nat.reduceMul,Qp0,Ql0,Qe0]
  refine ht.out.mono ?_
  rintro v h2 ⟨rfl, rfl⟩
  simp -dsimp -implicitDefEqProofs (disch := first | omega | assumption | (simp only [Option.isSome_some,Qt0]; done) | (simp only [List.length_cons,List.length_nil,List.length_append,Int.toNat_natCast] <;> omega)) only [Nat.reduceLT,Nat.reduceLeDiff,Nat.reduceEqDiff,↓reduceIte,Int.reduceLT,Int.reduceLE,Int.reduceToNat,Int.reduceEq,Int.reduceNe,Nat.reduceAdd,Int.reduceAdd,Int.reduceSub,Int.reduceMul,Nat.reduceMul,Qp0,Ql0,Qe0]
  exact ⟨_, hle, by trivial, rfl⟩
end Go.Proofs.YtdlaoeepeakpeaaGreat


/- Walks of the ring's functions. -/
namespace Go.Proofs.YtdlaoeepeakpeaaGreat
set_option linter.unusedVariables false
set_option linter.unusedSimpArgs false
open Go.RowKit Px
def right (m : List UInt8) (c : Int) : Prop := 1 ≤ m.length ∧ m.length ≤ 64 ∧ 0 ≤ c ∧ c ≤ 1099511627776
instance (m : List UInt8) (c : Int) : Decidable (right m c) := by unfold right; infer_instance
def alive (c n : Int) : Prop := 0 ≤ n ∧ n ≤ 1099511627776 ∧ c - 2 ≤ n
instance (c n : Int) : Decidable (alive c n) := by unfold alive; infer_instance
def ringT : List UInt8 := [114, 105, 110, 103]
set_option maxRecDepth 20000 in
theorem new_right (m : List UInt8) (c : Int) (hr : right m c) (w0 : World) (h : PH) : PCalls Tryz.prog w0 5 [str m, .int .i64 c] h fun v h' => ∃ b, v = .tuple #[.pointer (some ⟨b, 0, none⟩), .nilIface] ∧ h.top ≤ b ∧ h' = h.new b ⟨[str m, .int .i64 c], 2⟩ := by
  refine PCalls_body Tryz.func5 (by kernel_rfl) rfl _ Tryz.ntmps5 (by kernel_rfl) (by kernel_rfl) _ Tryz.results5 ?_
  obtain ⟨h1, h2, h3, h4⟩ := hr
  have d1 : decide ((m.length : Int) < 1) = false := decide_eq_false (by omega)
  have d2 : decide (64 < (m.length : Int)) = false := decide_eq_false (by omega)
  have d3 : decide (c < 0) = false := decide_eq_false (by omega)
  have d4 : decide (1099511627776 < c) = false := decide_eq_false (by omega)
  simp -dsimp -implicitDefEqProofs (disch := first | omega | assumption | (simp only [Option.isSome_some,Qt0]; done) | (simp only [List.length_cons,List.length_nil,List.length_append,Int.toNat_natCast] <;> omega)) only [Nat.reduceLT,Nat.reduceLeDiff,Nat.reduceEqDiff,↓reduceIte,Int.reduceLT,Int.reduceLE,Int.reduceToNat,Int.reduceEq,Int.reduceNe,Nat.reduceAdd,Int.reduceAdd,Int.reduceSub,Int.reduceMul,Nat.reduceMul,Qp0,Ql0,Qe0,d1,d2,d3,d4]
  refine fun b hb => ?_
  simp -dsimp -implicitDefEqProofs (disch := first | omega | assumption | (simp only [Option.isSome_some,Qt0]; done) | (simp only [List.length_cons,List.length_nil,List.length_append,Int.toNat_natCast] <;> omega)) only [Nat.reduceLT,Nat.reduceLeDiff,Nat.reduceEqDiff,↓reduceIte,Int.reduceLT,Int.reduceLE,Int.reduceToNat,Int.reduceEq,Int.reduceNe,Nat.reduceAdd,Int.reduceAdd,Int.reduceSub,Int.reduceMul,Nat.reduceMul,Qp0,Ql0,Qe0]
  exact ⟨_, PH.Le.refl _, b, rfl, hb, rfl⟩
set_option maxRecDepth 20000 in
theorem new_wrong (m : List UInt8) (c : Int) (hr : ¬ right m c) (w0 : World) (h : PH) : PCalls Tryz.prog w0 5 [str m, .int .i64 c] h fun v h' => ∃ be, v = .tuple #[.pointer none, errV be] ∧ h.top ≤ be ∧ h' = h.new be ⟨[str ringT, .int .i64 0, codeV 1], 3⟩ := by
  refine PCalls_body Tryz.func5 (by kernel_rfl) rfl _ Tryz.ntmps5 (by kernel_rfl) (by kernel_rfl) _ Tryz.results5 ?_
  have hA := Lib.hid (@at_ev ringT 0 (.code 1) _ w0 h rfl)
  unfold right at hr
  by_cases h1 : (m.length : Int) < 1
  · have d1 := decide_eq_true h1
    simp -dsimp -implicitDefEqProofs (disch := first | omega | assumption | (simp only [Option.isSome_some,Qt0]; done) | (simp only [List.length_cons,List.length_nil,List.length_append,Int.toNat_natCast] <;> omega)) only [Nat.reduceLT,Nat.reduceLeDiff,Nat.reduceEqDiff,↓reduceIte,Int.reduceLT,Int.reduceLE,Int.reduceToNat,Int.reduceEq,Int.reduceNe,Nat.reduceAdd,Int.reduceAdd,Int.reduceSub,Int.reduceMul,Nat.reduceMul,Qp0,Ql0,Qe0,d1]
    refine hA.out.mono ?_
    rintro v h2 ⟨be, rfl, hbe, rfl⟩
    simp -dsimp -implicitDefEqProofs (disch := first | omega | assumption | (simp only [Option.isSome_some,Qt0]; done) | (simp only [List.length_cons,List.length_nil,List.length_append,Int.toNat_natCast] <;> omega)) only [Nat.reduceLT,Nat.reduceLeDiff,Nat.reduceEqDiff,↓reduceIte,Int.reduceLT,Int.reduceLE,Int.reduceToNat,Int.reduceEq,Int.reduceNe,Nat.reduceAdd,Int.reduceAdd,Int.reduceSub,Int.reduceMul,Nat.reduceMul,Qp0,Ql0,Qe0]
    exact ⟨_, PH.Le.refl _, be, rfl, hbe, rfl⟩
  have d1 := decide_eq_false h1
  by_cases h2 : 64 < (m.length : Int)
  · have d2 := decide_eq_true h2
    simp -dsimp -implicitDefEqProofs (disch := first | omega | assumption | (simp only [Option.isSome_some,Qt0]; done) | (simp only [List.length_cons,List.length_nil,List.length_append,Int.toNat_natCast] <;> omega)) only [Nat.reduceLT,Nat.reduceLeDiff,Nat.reduceEqDiff,↓reduceIte,Int.reduceLT,Int.reduceLE,Int.reduceToNat,Int.reduceEq,Int.reduceNe,Nat.reduceAdd,Int.reduceAdd,Int.reduceSub,Int.reduceMul,Nat.reduceMul,Qp0,Ql0,Qe0,d1,d2]
    refine hA.out.mono ?_
    rintro v h2 ⟨be, rfl, hbe, rfl⟩
    simp -dsimp -implicitDefEqProofs (disch := first | omega | assumption | (simp only [Option.isSome_some,Qt0]; done) | (simp only [List.length_cons,List.length_nil,List.length_append,Int.toNat_natCast] <;> omega)) only [Nat.reduceLT,Nat.reduceLeDiff,Nat.reduceEqDiff,↓reduceIte,Int.reduceLT,Int.reduceLE,Int.reduceToNat,Int.reduceEq,Int.reduceNe,Nat.reduceAdd,Int.reduceAdd,Int.reduceSub,Int.reduceMul,Nat.reduceMul,Qp0,Ql0,Qe0]
    exact ⟨_, PH.Le.refl _, be, rfl, hbe, rfl⟩
  have d2 := decide_eq_false h2
  by_cases h3 : c < 0
  · have d3 := decide_eq_true h3
    simp -dsimp -implicitDefEqProofs (disch := first | omega | assumption | (simp only [Option.isSome_some,Qt0]; done) | (simp only [List.length_cons,List.length_nil,List.length_append,Int.toNat_natCast] <;> omega)) only [Nat.reduceLT,Nat.reduceLeDiff,Nat.reduceEqDiff,↓reduceIte,Int.reduceLT,Int.reduceLE,Int.reduceToNat,Int.reduceEq,Int.reduceNe,Nat.reduceAdd,Int.reduceAdd,Int.reduceSub,Int.reduceMul,Nat.reduceMul,Qp0,Ql0,Qe0,d1,d2,d3]
    refine hA.out.mono ?_
    rintro v h2 ⟨be, rfl, hbe, rfl⟩
    simp -dsimp -implicitDefEqProofs (disch := first | omega | assumption | (simp only [Option.isSome_some,Qt0]; done) | (simp only [List.length_cons,List.length_nil,List.length_append,Int.toNat_natCast] <;> omega)) only [Nat.reduceLT,Nat.reduceLeDiff,Nat.reduceEqDiff,↓reduceIte,Int.reduceLT,Int.reduceLE,Int.reduceToNat,Int.reduceEq,Int.reduceNe,Nat.reduceAdd,Int.reduceAdd,Int.reduceSub,Int.reduceMul,Nat.reduceMul,Qp0,Ql0,Qe0]
    exact ⟨_, PH.Le.refl _, be, rfl, hbe, rfl⟩
  have d3 := decide_eq_false h3
  have d4 : decide (1099511627776 < c) = true := decide_eq_true (by omega)
  simp -dsimp -implicitDefEqProofs (disch := first | omega | assumption | (simp only [Option.isSome_some,Qt0]; done) | (simp only [List.length_cons,List.length_nil,List.length_append,Int.toNat_natCast] <;> omega)) only [Nat.reduceLT,Nat.reduceLeDiff,Nat.reduceEqDiff,↓reduceIte,Int.reduceLT,Int.reduceLE,Int.reduceToNat,Int.reduceEq,Int.reduceNe,Nat.reduceAdd,Int.reduceAdd,Int.reduceSub,Int.reduceMul,Nat.reduceMul,Qp0,Ql0,Qe0,d1,d2,d3,d4]
  refine hA.out.mono ?_
  rintro v h2 ⟨be, rfl, hbe, rfl⟩
  simp -dsimp -implicitDefEqProofs (disch := first | omega | assumption | (simp only [Option.isSome_some,Qt0]; done) | (simp only [List.length_cons,List.length_nil,List.length_append,Int.toNat_natCast] <;> omega)) only [Nat.reduceLT,Nat.reduceLeDiff,Nat.reduceEqDiff,↓reduceIte,Int.reduceLT,Int.reduceLE,Int.reduceToNat,Int.reduceEq,Int.reduceNe,Nat.reduceAdd,Int.reduceAdd,Int.reduceSub,Int.reduceMul,Nat.reduceMul,Qp0,Ql0,Qe0]
  exact ⟨_, PH.Le.refl _, be, rfl, hbe, rfl⟩
section
variable (b : Nat) (m : List UInt8) (c n : Int) (w0 : World) (h : PH)
set_option maxRecDepth 20000 in
theorem current_any (hb : h.m b = some ⟨[str m, .int .i64 c], 2⟩) : PCalls Tryz.prog w0 22 [.pointer (some ⟨b, 0, none⟩)] h fun v h' => v = .int .i64 c ∧ h' = h := by
  refine PCalls_body Tryz.func22 (by kernel_rfl) rfl _ Tryz.ntmps22 (by kernel_rfl) (by kernel_rfl) _ Tryz.results22 ?_
  simp -dsimp -implicitDefEqProofs (disch := first | omega | assumption | (simp only [Option.isSome_some,Qt0]; done) | (simp only [List.length_cons,List.length_nil,List.length_append,Int.toNat_natCast] <;> omega)) only [Nat.reduceLT,Nat.reduceLeDiff,Nat.reduceEqDiff,↓reduceIte,Int.reduceLT,Int.reduceLE,Int.reduceToNat,Int.reduceEq,Int.reduceNe,Nat.reduceAdd,Int.reduceAdd,Int.reduceSub,Int.reduceMul,Nat.reduceMul,Qp0,Ql0,Qe0,rd_M,rdM_some,hb]
  exact ⟨_, PH.Le.refl _, by trivial, rfl⟩
set_option maxRecDepth 20000 in
theorem alive_any (hc : 0 ≤ c ∧ c ≤ 1099511627776) (hb : h.m b = some ⟨[str m, .int .i64 c], 2⟩) : PCalls Tryz.prog w0 47 [.pointer (some ⟨b, 0, none⟩), .int .i64 n] h fun v h' => v = .bool (decide (alive c n)) ∧ h' = h := by
  refine PCalls_body Tryz.func47 (by kernel_rfl) rfl _ Tryz.ntmps47 (by kernel_rfl) (by kernel_rfl) _ Tryz.results47 ?_
  obtain ⟨c0, c1⟩ := hc
  simp -dsimp -implicitDefEqProofs (disch := first | omega | assumption | (simp only [Option.isSome_some,Qt0]; done) | (simp only [List.length_cons,List.length_nil,List.length_append,Int.toNat_natCast] <;> omega)) only [Nat.reduceLT,Nat.reduceLeDiff,Nat.reduceEqDiff,↓reduceIte,Int.reduceLT,Int.reduceLE,Int.reduceToNat,Int.reduceEq,Int.reduceNe,Nat.reduceAdd,Int.reduceAdd,Int.reduceSub,Int.reduceMul,Nat.reduceMul,Qp0,Ql0,Qe0,rd_M,rdM_some,hb]
  obtain ⟨M, hM⟩ : ∃ M, (if c - 2 > 0 then c - 2 else 0) = M := ⟨_, rfl⟩
  by_cases d1 : M ≤ n
  · have e1 := decide_eq_true d1
    by_cases d2 : n ≤ 1099511627776
    · have e2 := decide_eq_true d2
      have hal : decide (alive c n) = true := decide_eq_true (by unfold alive; split at hM <;> omega)
      simp -dsimp -implicitDefEqProofs (disch := first | omega | assumption | (simp only [Option.isSome_some,Qt0]; done) | (simp only [List.length_cons,List.length_nil,List.length_append,Int.toNat_natCast] <;> omega)) only [Nat.reduceLT,Nat.reduceLeDiff,Nat.reduceEqDiff,↓reduceIte,Int.reduceLT,Int.reduceLE,Int.reduceToNat,Int.reduceEq,Int.reduceNe,Nat.reduceAdd,Int.reduceAdd,Int.reduceSub,Int.reduceMul,Nat.reduceMul,Qp0,Ql0,Qe0,hM,e1,e2,hal]
      exact ⟨_, PH.Le.refl _, by trivial, rfl⟩
    · have e2 := decide_eq_false d2
      have hal : decide (alive c n) = false := decide_eq_false (by unfold alive; omega)
      simp -dsimp -implicitDefEqProofs (disch := first | omega | assumption | (simp only [Option.isSome_some,Qt0]; done) | (simp only [List.length_cons,List.length_nil,List.length_append,Int.toNat_natCast] <;> omega)) only [Nat.reduceLT,Nat.reduceLeDiff,Nat.reduceEqDiff,↓reduceIte,Int.reduceLT,Int.reduceLE,Int.reduceToNat,Int.reduceEq,Int.reduceNe,Nat.reduceAdd,Int.reduceAdd,Int.reduceSub,Int.reduceMul,Nat.reduceMul,Qp0,Ql0,Qe0,hM,e1,e2,hal]
      exact ⟨_, PH.Le.refl _, by trivial, rfl⟩
  · have e1 := decide_eq_false d1
    have hal : decide (alive c n) = false := decide_eq_false (by unfold alive; split at hM <;> omega)
    simp -dsimp -implicitDefEqProofs (disch := first | omega | assumption | (simp only [Option.isSome_some,Qt0]; done) | (simp only [List.length_cons,List.length_nil,List.length_append,Int.toNat_natCast] <;> omega)) only [Nat.reduceLT,Nat.reduceLeDiff,Nat.reduceEqDiff,↓reduceIte,Int.reduceLT,Int.reduceLE,Int.reduceToNat,Int.reduceEq,Int.reduceNe,Nat.reduceAdd,Int.reduceAdd,Int.reduceSub,Int.reduceMul,Nat.reduceMul,Qp0,Ql0,Qe0,hM,e1,hal]
    exact ⟨_, PH.Le.refl _, by trivial, rfl⟩
set_option maxRecDepth 20000 in
theorem key_alive (hm : m.length ≤ 64) (hc : 0 ≤ c ∧ c ≤ 1099511627776) (hn : alive c n) (hb : h.m b = some ⟨[str m, .int .i64 c], 2⟩) : PCalls Tryz.prog w0 24 [.pointer (some ⟨b, 0, none⟩), .int .i64 n] h fun v h' => v = .tuple #[str (derive m n), .nilIface] ∧ h' = h := by
  refine PCalls_body Tryz.func24 (by kernel_rfl) rfl _ Tryz.ntmps24 (by kernel_rfl) (by kernel_rfl) _ Tryz.results24 ?_
  have hA := alive_any b m c n w0 h hc hb
  rw [decide_eq_true hn] at hA
  have hD := @derive_any m n (by omega) w0 h
  generalize derive m n = D at *
  have hA := Lib.hid hA
  have hD := Lib.hid hD
  simp -dsimp -implicitDefEqProofs (disch := first | omega | assumption | (simp only [Option.isSome_some,Qt0]; done) | (simp only [List.length_cons,List.length_nil,List.length_append,Int.toNat_natCast] <;> omega)) only [Nat.reduceLT,Nat.reduceLeDiff,Nat.reduceEqDiff,↓reduceIte,Int.reduceLT,Int.reduceLE,Int.reduceToNat,Int.reduceEq,Int.reduceNe,Nat.reduceAdd,Int.reduceAdd,Int.reduceSub,Int.reduceMul,Nat.reduceMul,Qp0,Ql0,Qe0]
  refine hA.out.mono ?_
  rintro v hz ⟨rfl, rfl⟩
  simp -dsimp -implicitDefEqProofs (disch := first | omega | assumption | (simp only [Option.isSome_some,Qt0]; done) | (simp only [List.length_cons,List.length_nil,List.length_append,Int.toNat_natCast] <;> omega)) only [Nat.reduceLT,Nat.reduceLeDiff,Nat.reduceEqDiff,↓reduceIte,Int.reduceLT,Int.reduceLE,Int.reduceToNat,Int.reduceEq,Int.reduceNe,Nat.reduceAdd,Int.reduceAdd,Int.reduceSub,Int.reduceMul,Nat.reduceMul,Qp0,Ql0,Qe0,rd_M,rdM_some,hb]
  refine hD.out.mono ?_
  rintro v hz ⟨rfl, rfl⟩
  simp -dsimp -implicitDefEqProofs (disch := first | omega | assumption | (simp only [Option.isSome_some,Qt0]; done) | (simp only [List.length_cons,List.length_nil,List.length_append,Int.toNat_natCast] <;> omega)) only [Nat.reduceLT,Nat.reduceLeDiff,Nat.reduceEqDiff,↓reduceIte,Int.reduceLT,Int.reduceLE,Int.reduceToNat,Int.reduceEq,Int.reduceNe,Nat.reduceAdd,Int.reduceAdd,Int.reduceSub,Int.reduceMul,Nat.reduceMul,Qp0,Ql0,Qe0]
  exact ⟨_, PH.Le.refl _, by trivial, rfl⟩
set_option maxRecDepth 20000 in
theorem key_not (hc : 0 ≤ c ∧ c ≤ 1099511627776) (hn : ¬ alive c n) (hb : h.m b = some ⟨[str m, .int .i64 c], 2⟩) : PCalls Tryz.prog w0 24 [.pointer (some ⟨b, 0, none⟩), .int .i64 n] h fun v h' => ∃ be, v = .tuple #[str [], errV be] ∧ h.top ≤ be ∧ h' = h.new be ⟨[str ringT, .int .i64 c, codeV 9], 3⟩ := by
  refine PCalls_body Tryz.func24 (by kernel_rfl) rfl _ Tryz.ntmps24 (by kernel_rfl) (by kernel_rfl) _ Tryz.results24 ?_
  have hA := alive_any b m c n w0 h hc hb
  rw [decide_eq_false hn] at hA
  have hA := Lib.hid hA
  have hC := Lib.hid (current_any b m c w0 h hb)
  have hE := Lib.hid (@at_ev ringT c (.code 9) _ w0 h rfl)
  simp -dsimp -implicitDefEqProofs (disch := first | omega | assumption | (simp only [Option.isSome_some,Qt0]; done) | (simp only [List.length_cons,List.length_nil,List.length_append,Int.toNat_natCast] <;> omega)) only [Nat.reduceLT,Nat.reduceLeDiff,Nat.reduceEqDiff,↓reduceIte,Int.reduceLT,Int.reduceLE,Int.reduceToNat,Int.reduceEq,Int.reduceNe,Nat.reduceAdd,Int.reduceAdd,Int.reduceSub,Int.reduceMul,Nat.reduceMul,Qp0,Ql0,Qe0]
  refine hA.out.mono ?_
  rintro v hz ⟨rfl, rfl⟩
  simp -dsimp -implicitDefEqProofs (disch := first | omega | assumption | (simp only [Option.isSome_some,Qt0]; done) | (simp only [List.length_cons,List.length_nil,List.length_append,Int.toNat_natCast] <;> omega)) only [Nat.reduceLT,Nat.reduceLeDiff,Nat.reduceEqDiff,↓reduceIte,Int.reduceLT,Int.reduceLE,Int.reduceToNat,Int.reduceEq,Int.reduceNe,Nat.reduceAdd,Int.reduceAdd,Int.reduceSub,Int.reduceMul,Nat.reduceMul,Qp0,Ql0,Qe0]
  refine hC.out.mono ?_
  rintro v hz ⟨rfl, rfl⟩
  simp -dsimp -implicitDefEqProofs (disch := first | omega | assumption | (simp only [Option.isSome_some,Qt0]; done) | (simp only [List.length_cons,List.length_nil,List.length_append,Int.toNat_natCast] <;> omega)) only [Nat.reduceLT,Nat.reduceLeDiff,Nat.reduceEqDiff,↓reduceIte,Int.reduceLT,Int.reduceLE,Int.reduceToNat,Int.reduceEq,Int.reduceNe,Nat.reduceAdd,Int.reduceAdd,Int.reduceSub,Int.reduceMul,Nat.reduceMul,Qp0,Ql0,Qe0]
  refine hE.out.mono ?_
  rintro v hz ⟨be, rfl, hbe, rfl⟩
  simp -dsimp -implicitDefEqProofs (disch := first | omega | assumption | (simp only [Option.isSome_some,Qt0]; done) | (simp only [List.length_cons,List.length_nil,List.length_append,Int.toNat_natCast] <;> omega)) only [Nat.reduceLT,Nat.reduceLeDiff,Nat.reduceEqDiff,↓reduceIte,Int.reduceLT,Int.reduceLE,Int.reduceToNat,Int.reduceEq,Int.reduceNe,Nat.reduceAdd,Int.reduceAdd,Int.reduceSub,Int.reduceMul,Nat.reduceMul,Qp0,Ql0,Qe0]
  exact ⟨_, PH.Le.refl _, be, rfl, hbe, rfl⟩
end
end Go.Proofs.YtdlaoeepeakpeaaGreat


/- Texts as letters, as plain functions on lists of bytes: what a text's letters are, which bytes a cookie may hold. No condition. -/
namespace Go.Proofs.YtdlaoeepeakpeaaGreat.Tx
set_option linter.unusedVariables false
set_option linter.unusedSimpArgs false
def letters : List UInt8 := [65, 66, 67, 68, 69, 70, 71, 72, 73, 74, 75, 76, 77, 78, 79, 80, 81, 82, 83, 84, 85, 86, 87, 88, 89, 90, 97, 98, 99, 100, 101, 102, 103, 104, 105, 106, 107, 108, 109, 110, 111, 112, 113, 114, 115, 116, 117, 118, 119, 120, 121, 122, 48, 49, 50, 51, 52, 53, 54, 55, 56, 57, 45, 95]
def let64 (n : UInt32) : UInt8 := letters.getD (n >>> 18 &&& 63).toNat 0
def sh6 (n : UInt32) : Nat → UInt32
  | 0 => n
  | i + 1 => sh6 n i <<< 6
def lets (n : UInt32) : Nat → List UInt8
  | 0 => []
  | i + 1 => lets n i ++ [let64 (sh6 n i)]
theorem lets_length (n : UInt32) (i : Nat) : (lets n i).length = i := by
  induction i with
  | zero => rfl
  | succ i ih => simp [lets, ih]
/-- Up to three bytes as a number, the first one highest. -/
def num3 (a b c : UInt32) : UInt32 := ((((0 : UInt32) <<< 8 ||| a) <<< 8) ||| b) <<< 8 ||| c
def enc : List UInt8 → List UInt8
  | [] => []
  | [a] => lets (((((0 : UInt32) <<< 8 ||| a.toUInt32) <<< 8)) <<< 8) 2
  | [a, b] => lets (((((0 : UInt32) <<< 8 ||| a.toUInt32) <<< 8) ||| b.toUInt32) <<< 8) 3
  | a :: b :: c :: t => lets (num3 a.toUInt32 b.toUInt32 c.toUInt32) 4 ++ enc t
theorem enc_length (l : List UInt8) : (enc l).length ≤ 2 * l.length + 4 := by
  fun_induction enc l with
  | case1 => simp
  | case2 a => simp [lets_length]
  | case3 a b => simp [lets_length]
  | case4 a b c t ih => simp [lets_length]; omega
theorem and63 (x : UInt32) : (x &&& 63).toNat < letters.length := by
  have : (x &&& 63).toNat ≤ 63 := by rw [UInt32.toNat_and]; exact Nat.and_le_right
  show _ < 64
  omega
theorem take_snoc8 (s : List UInt8) (k : Nat) (h : k < s.length) : s.take (k + 1) = s.take k ++ [s.getD k 0] := by
  rw [List.take_add_one, List.getElem?_eq_getElem h]; simp [List.getD, List.getElem?_eq_getElem h]
def marks : List UInt8 := [33, 35, 36, 37, 38, 39, 42, 43, 45, 46, 94, 95, 96, 124, 126]
def tokc (c : UInt8) : Bool := (decide (97 ≤ c) && decide (c ≤ 122)) || (decide (65 ≤ c) && decide (c ≤ 90)) || (decide (48 ≤ c) && decide (c ≤ 57)) || decide (0 ≤ Lib.indexByte marks c)
def token (s : List UInt8) : Bool := s.all tokc && decide (s ≠ [])
def idx (c : UInt8) : Int := Lib.indexByte letters c
def nums (s : List UInt8) : List UInt32 := s.map fun c => UInt32.ofInt (idx c)
def two (a b : UInt32) : UInt8 := (a <<< 2 ||| b >>> 4).toUInt8
def three (b c : UInt32) : UInt8 := (b <<< 4 ||| c >>> 2).toUInt8
def four (a b c d : UInt32) : UInt32 := a <<< 18 ||| b <<< 12 ||| c <<< 6 ||| d
/-- The bytes of letters, where these are right. -/
def decN : List UInt32 → Option (List UInt8)
  | a :: b :: c :: d :: t => (decN t).map fun o => (four a b c d >>> 16).toUInt8 :: (four a b c d >>> 8).toUInt8 :: (four a b c d).toUInt8 :: o
  | [a, b, c] => if c &&& 3 = 0 then some [two a b, three b c] else none
  | [a, b] => if b &&& 15 = 0 then some [two a b] else none
  | [_] => none
  | [] => some []
end Go.Proofs.YtdlaoeepeakpeaaGreat.Tx

