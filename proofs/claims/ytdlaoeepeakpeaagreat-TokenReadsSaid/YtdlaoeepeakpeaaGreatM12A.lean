/- Parts TxDb, TxBv, Tk1, Tk2, joined. No condition. -/
import Derived.Test.YtdlaoeepeakpeaaGreatM11A
import Derived.Test.YtdlaoeepeakpeaaGreatM4A
import Derived.Test.YtdlaoeepeakpeaaGreatM7A
import Derived.Test.YtdlaoeepeakpeaaGreatM10A
/- Walk of text.Dec where the letters are wrong: the error and its place. -/
namespace Go.Proofs.YtdlaoeepeakpeaaGreat
set_option linter.unusedVariables false
set_option linter.unusedSimpArgs false
open Go.RowKit Px Tx
def textT : List UInt8 := [116, 101, 120, 116]
set_option maxRecDepth 20000 in
theorem tbad_any (a : Int) (w0 : World) (h : PH) : PCalls Tryz.prog w0 52 [.int .i64 a] h fun r h' => ∃ b, r = errV b ∧ h.top ≤ b ∧ h' = h.new b ⟨[str textT, .int .i64 a, codeV 2], 3⟩ := by
  refine PCalls_body Tryz.func52 (by kernel_rfl) rfl _ Tryz.ntmps52 (by kernel_rfl) (by kernel_rfl) _ Tryz.results52 ?_
  have hE := Lib.hid (@at_any textT a 37 (.int .i64 2) w0 h)
  unfold textT at hE ⊢
  simp -dsimp -implicitDefEqProofs (disch := first | omega | assumption | (simp only [Option.isSome_some,Qt0]; done) | (simp only [UInt64.reduceToNat,UInt32.reduceToNat,UInt8.reduceToNat,List.length_cons,List.length_nil,List.length_append,Int.toNat_natCast] <;> omega)) only [Nat.reduceLT,Nat.reduceLeDiff,Nat.reduceEqDiff,↓reduceIte,Int.reduceLT,Int.reduceLE,Int.reduceToNat,Int.reduceEq,Int.reduceNe,Nat.reduceAdd,UInt8.reduceOfNat,UInt16.reduceOfNat,UInt32.reduceOfNat,UInt64.reduceOfNat,UInt64.reduceToNat,UInt32.reduceToNat,UInt16.reduceToNat,UInt8.reduceToNat,Int.reduceAdd,Int.reduceSub,Int.reduceMul,Nat.reduceMul,Qp0,Ql0,Qe0]
  refine hE.out.mono ?_
  rintro v h1 ⟨b, rfl, hb, rfl⟩
  simp -dsimp -implicitDefEqProofs (disch := first | omega | assumption | (simp only [Option.isSome_some,Qt0]; done) | (simp only [UInt64.reduceToNat,UInt32.reduceToNat,UInt8.reduceToNat,List.length_cons,List.length_nil,List.length_append,Int.toNat_natCast] <;> omega)) only [Nat.reduceLT,Nat.reduceLeDiff,Nat.reduceEqDiff,↓reduceIte,Int.reduceLT,Int.reduceLE,Int.reduceToNat,Int.reduceEq,Int.reduceNe,Nat.reduceAdd,UInt8.reduceOfNat,UInt16.reduceOfNat,UInt32.reduceOfNat,UInt64.reduceOfNat,UInt64.reduceToNat,UInt32.reduceToNat,UInt16.reduceToNat,UInt8.reduceToNat,Int.reduceAdd,Int.reduceSub,Int.reduceMul,Nat.reduceMul,Qp0,Ql0,Qe0]
  exact ⟨_, PH.Le.refl _, b, rfl, hb, rfl⟩
/-- Where letters are wrong that are letters all. -/
def decEnd (s : List UInt8) : Int := if s.length % 4 = 1 then s.length else s.length - 1
set_option maxRecDepth 20000 in
set_option maxHeartbeats 4000000 in
theorem dec_bad1 (s : List UInt8) (q : Nat) (hq : q < s.length) (w0 : World) (h : PH) (hs : s.length ≤ 4000000) (hg : ∀ j, j < q → 0 ≤ idx (s.getD j 0)) (hb : idx (s.getD q 0) < 0) :
    PCalls Tryz.prog w0 28 [str s] h fun v h' => ∃ be, v = .tuple #[str [], errV be] ∧ h.top ≤ be ∧ h' = h.new be ⟨[str textT, .int .i64 q, codeV 2], 3⟩ := by
  refine PCalls_body Tryz.func28 (by kernel_rfl) rfl _ Tryz.ntmps28 (by kernel_rfl) (by kernel_rfl) _ Tryz.results28 ?_
  simp -dsimp -implicitDefEqProofs (disch := first | omega | assumption | (simp only [Option.isSome_some,Qt0]; done) | (simp only [UInt64.reduceToNat,UInt32.reduceToNat,UInt8.reduceToNat,List.length_cons,List.length_nil,List.length_append,Int.toNat_natCast] <;> omega)) only [Nat.reduceLT,Nat.reduceLeDiff,Nat.reduceEqDiff,↓reduceIte,Int.reduceLT,Int.reduceLE,Int.reduceToNat,Int.reduceEq,Int.reduceNe,Nat.reduceAdd,UInt8.reduceOfNat,UInt16.reduceOfNat,UInt32.reduceOfNat,UInt64.reduceOfNat,UInt64.reduceToNat,UInt32.reduceToNat,UInt16.reduceToNat,UInt8.reduceToNat,Int.reduceAdd,Int.reduceSub,Int.reduceMul,Nat.reduceMul,Qp0,Ql0,Qe0]
  refine PW_loop (fun n f h' => ∃ (k : Nat) (v : Value), k ≤ q ∧ n = q - k ∧ f 0 = some (str s) ∧ f 5 = some (.int .i64 k) ∧ f 4 = some v ∧ OwnS h h' 1 v k (wst (nums (s.take k)))) (by kernel_rfl) q ⟨0, .slice none 0 0, by omega, by omega, ?_, ?_, ?_, OwnS.nil h 1⟩ ?_
  · simp -dsimp -implicitDefEqProofs (disch := first | omega | assumption | (simp only [Option.isSome_some,Qt0]; done) | (simp only [UInt64.reduceToNat,UInt32.reduceToNat,UInt8.reduceToNat,List.length_cons,List.length_nil,List.length_append,Int.toNat_natCast] <;> omega)) only [Nat.reduceLT,Nat.reduceLeDiff,Nat.reduceEqDiff,↓reduceIte,Int.reduceLT,Int.reduceLE,Int.reduceToNat,Int.reduceEq,Int.reduceNe,Nat.reduceAdd,UInt8.reduceOfNat,UInt16.reduceOfNat,UInt32.reduceOfNat,UInt64.reduceOfNat,UInt64.reduceToNat,UInt32.reduceToNat,UInt16.reduceToNat,UInt8.reduceToNat,Int.reduceAdd,Int.reduceSub,Int.reduceMul,Nat.reduceMul,Qp0,Ql0,Qe0]
  · simp -dsimp -implicitDefEqProofs (disch := first | omega | assumption | (simp only [Option.isSome_some,Qt0]; done) | (simp only [UInt64.reduceToNat,UInt32.reduceToNat,UInt8.reduceToNat,List.length_cons,List.length_nil,List.length_append,Int.toNat_natCast] <;> omega)) only [Nat.reduceLT,Nat.reduceLeDiff,Nat.reduceEqDiff,↓reduceIte,Int.reduceLT,Int.reduceLE,Int.reduceToNat,Int.reduceEq,Int.reduceNe,Nat.reduceAdd,UInt8.reduceOfNat,UInt16.reduceOfNat,UInt32.reduceOfNat,UInt64.reduceOfNat,UInt64.reduceToNat,UInt32.reduceToNat,UInt16.reduceToNat,UInt8.reduceToNat,Int.reduceAdd,Int.reduceSub,Int.reduceMul,Nat.reduceMul,Qp0,Ql0,Qe0]
  · simp -dsimp -implicitDefEqProofs (disch := first | omega | assumption | (simp only [Option.isSome_some,Qt0]; done) | (simp only [UInt64.reduceToNat,UInt32.reduceToNat,UInt8.reduceToNat,List.length_cons,List.length_nil,List.length_append,Int.toNat_natCast] <;> omega)) only [Nat.reduceLT,Nat.reduceLeDiff,Nat.reduceEqDiff,↓reduceIte,Int.reduceLT,Int.reduceLE,Int.reduceToNat,Int.reduceEq,Int.reduceNe,Nat.reduceAdd,UInt8.reduceOfNat,UInt16.reduceOfNat,UInt32.reduceOfNat,UInt64.reduceOfNat,UInt64.reduceToNat,UInt32.reduceToNat,UInt16.reduceToNat,UInt8.reduceToNat,Int.reduceAdd,Int.reduceSub,Int.reduceMul,Nat.reduceMul,Qp0,Ql0,Qe0]
  rintro n f h' ⟨k, v, hk, rfl, h0, h5, h4, how⟩
  by_cases hkq : k < q
  · have hlt : k < s.length := by omega
    have hn := nums_snoc s k hlt
    obtain ⟨c, hc⟩ : ∃ c, c = s.getD k 0 := ⟨_, rfl⟩
    have hcg := hg k hkq
    rw [← hc] at hcg
    rw [← hc] at hn
    have hcall : PCalls Tryz.prog w0 51 [str [65, 66, 67, 68, 69, 70, 71, 72, 73, 74, 75, 76, 77, 78, 79, 80, 81, 82, 83, 84, 85, 86, 87, 88, 89, 90, 97, 98, 99, 100, 101, 102, 103, 104, 105, 106, 107, 108, 109, 110, 111, 112, 113, 114, 115, 116, 117, 118, 119, 120, 121, 122, 48, 49, 50, 51, 52, 53, 54, 55, 56, 57, 45, 95], u8 c] h' fun v h2 => v = .int .i64 (idx c) ∧ h2 = h' := index_any letters c w0 h'
    simp -dsimp -implicitDefEqProofs (disch := first | omega | assumption | (simp only [Option.isSome_some,Qt0]; done) | (simp only [UInt64.reduceToNat,UInt32.reduceToNat,UInt8.reduceToNat,List.length_cons,List.length_nil,List.length_append,Int.toNat_natCast] <;> omega)) only [Nat.reduceLT,Nat.reduceLeDiff,Nat.reduceEqDiff,↓reduceIte,Int.reduceLT,Int.reduceLE,Int.reduceToNat,Int.reduceEq,Int.reduceNe,Nat.reduceAdd,UInt8.reduceOfNat,UInt16.reduceOfNat,UInt32.reduceOfNat,UInt64.reduceOfNat,UInt64.reduceToNat,UInt32.reduceToNat,UInt16.reduceToNat,UInt8.reduceToNat,Int.reduceAdd,Int.reduceSub,Int.reduceMul,Nat.reduceMul,Qp0,Ql0,Qe0,h0,h5,← hc]
    refine hcall.mono ?_
    rintro u h2 ⟨rfl, rfl⟩
    simp -dsimp -implicitDefEqProofs (disch := first | omega | assumption | (simp only [Option.isSome_some,Qt0]; done) | (simp only [UInt64.reduceToNat,UInt32.reduceToNat,UInt8.reduceToNat,List.length_cons,List.length_nil,List.length_append,Int.toNat_natCast] <;> omega)) only [Nat.reduceLT,Nat.reduceLeDiff,Nat.reduceEqDiff,↓reduceIte,Int.reduceLT,Int.reduceLE,Int.reduceToNat,Int.reduceEq,Int.reduceNe,Nat.reduceAdd,UInt8.reduceOfNat,UInt16.reduceOfNat,UInt32.reduceOfNat,UInt64.reduceOfNat,UInt64.reduceToNat,UInt32.reduceToNat,UInt16.reduceToNat,UInt8.reduceToNat,Int.reduceAdd,Int.reduceSub,Int.reduceMul,Nat.reduceMul,Qp0,Ql0,Qe0,h0,h5,h4]
    refine Does_one (v := u32 _) el_u32t rfl (by omega) (fun gb hgb => ?_)
    simp -dsimp -implicitDefEqProofs (disch := first | omega | assumption | (simp only [Option.isSome_some,Qt0]; done) | (simp only [UInt64.reduceToNat,UInt32.reduceToNat,UInt8.reduceToNat,List.length_cons,List.length_nil,List.length_append,Int.toNat_natCast] <;> omega)) only [Nat.reduceLT,Nat.reduceLeDiff,Nat.reduceEqDiff,↓reduceIte,Int.reduceLT,Int.reduceLE,Int.reduceToNat,Int.reduceEq,Int.reduceNe,Nat.reduceAdd,UInt8.reduceOfNat,UInt16.reduceOfNat,UInt32.reduceOfNat,UInt64.reduceOfNat,UInt64.reduceToNat,UInt32.reduceToNat,UInt16.reduceToNat,UInt8.reduceToNat,Int.reduceAdd,Int.reduceSub,Int.reduceMul,Nat.reduceMul,Qp0,Ql0,Qe0,h0,h5,h4]
    refine Does_app el_u32t (how.more ((PH.Le.refl _).new _ _ hgb)).own (Rs.blk (k := ⟨[u32 (UInt32.ofInt (idx c))], 1⟩) (by rw [PH.new_m, if_pos rfl]; rfl) rfl) (wst_one [UInt32.ofInt (idx c)]) (by unfold maxLen; omega) (by omega) (fun v' h3' ho hst => ?_)
    have hou' := (how.more ((PH.Le.refl _).new _ _ hgb)).stays hst ho
    rw [hn] at hou'
    simp -dsimp -implicitDefEqProofs (disch := first | omega | assumption | (simp only [Option.isSome_some,Qt0]; done) | (simp only [UInt64.reduceToNat,UInt32.reduceToNat,UInt8.reduceToNat,List.length_cons,List.length_nil,List.length_append,Int.toNat_natCast] <;> omega)) only [Nat.reduceLT,Nat.reduceLeDiff,Nat.reduceEqDiff,↓reduceIte,Int.reduceLT,Int.reduceLE,Int.reduceToNat,Int.reduceEq,Int.reduceNe,Nat.reduceAdd,UInt8.reduceOfNat,UInt16.reduceOfNat,UInt32.reduceOfNat,UInt64.reduceOfNat,UInt64.reduceToNat,UInt32.reduceToNat,UInt16.reduceToNat,UInt8.reduceToNat,Int.reduceAdd,Int.reduceSub,Int.reduceMul,Nat.reduceMul,Qp0,Ql0,Qe0,h0,h5,h4]
    refine ⟨_, h3', by omega, PH.Le.refl _, k + 1, v', by omega, rfl, ?_, ?_, ?_, hou'⟩
    · first | rfl | (simp; done)
    · first | rfl | (simp; done)
    · first | rfl | (simp; done)
  · obtain rfl : k = q := by omega
    obtain ⟨c, hc⟩ : ∃ c, c = s.getD k 0 := ⟨_, rfl⟩
    rw [← hc] at hb
    have hcall : PCalls Tryz.prog w0 51 [str [65, 66, 67, 68, 69, 70, 71, 72, 73, 74, 75, 76, 77, 78, 79, 80, 81, 82, 83, 84, 85, 86, 87, 88, 89, 90, 97, 98, 99, 100, 101, 102, 103, 104, 105, 106, 107, 108, 109, 110, 111, 112, 113, 114, 115, 116, 117, 118, 119, 120, 121, 122, 48, 49, 50, 51, 52, 53, 54, 55, 56, 57, 45, 95], u8 c] h' fun v h2 => v = .int .i64 (idx c) ∧ h2 = h' := index_any letters c w0 h'
    have hB := Lib.hid (tbad_any (k : Int) w0 h')
    simp -dsimp -implicitDefEqProofs (disch := first | omega | assumption | (simp only [Option.isSome_some,Qt0]; done) | (simp only [UInt64.reduceToNat,UInt32.reduceToNat,UInt8.reduceToNat,List.length_cons,List.length_nil,List.length_append,Int.toNat_natCast] <;> omega)) only [Nat.reduceLT,Nat.reduceLeDiff,Nat.reduceEqDiff,↓reduceIte,Int.reduceLT,Int.reduceLE,Int.reduceToNat,Int.reduceEq,Int.reduceNe,Nat.reduceAdd,UInt8.reduceOfNat,UInt16.reduceOfNat,UInt32.reduceOfNat,UInt64.reduceOfNat,UInt64.reduceToNat,UInt32.reduceToNat,UInt16.reduceToNat,UInt8.reduceToNat,Int.reduceAdd,Int.reduceSub,Int.reduceMul,Nat.reduceMul,Qp0,Ql0,Qe0,h0,h5,← hc]
    refine hcall.mono ?_
    rintro u h2 ⟨rfl, rfl⟩
    simp -dsimp -implicitDefEqProofs (disch := first | omega | assumption | (simp only [Option.isSome_some,Qt0]; done) | (simp only [UInt64.reduceToNat,UInt32.reduceToNat,UInt8.reduceToNat,List.length_cons,List.length_nil,List.length_append,Int.toNat_natCast] <;> omega)) only [Nat.reduceLT,Nat.reduceLeDiff,Nat.reduceEqDiff,↓reduceIte,Int.reduceLT,Int.reduceLE,Int.reduceToNat,Int.reduceEq,Int.reduceNe,Nat.reduceAdd,UInt8.reduceOfNat,UInt16.reduceOfNat,UInt32.reduceOfNat,UInt64.reduceOfNat,UInt64.reduceToNat,UInt32.reduceToNat,UInt16.reduceToNat,UInt8.reduceToNat,Int.reduceAdd,Int.reduceSub,Int.reduceMul,Nat.reduceMul,Qp0,Ql0,Qe0,h0,h5,h4]
    refine hB.out.mono ?_
    rintro v hz ⟨be, rfl, hbe, rfl⟩
    simp -dsimp -implicitDefEqProofs (disch := first | omega | assumption | (simp only [Option.isSome_some,Qt0]; done) | (simp only [UInt64.reduceToNat,UInt32.reduceToNat,UInt8.reduceToNat,List.length_cons,List.length_nil,List.length_append,Int.toNat_natCast] <;> omega)) only [Nat.reduceLT,Nat.reduceLeDiff,Nat.reduceEqDiff,↓reduceIte,Int.reduceLT,Int.reduceLE,Int.reduceToNat,Int.reduceEq,Int.reduceNe,Nat.reduceAdd,UInt8.reduceOfNat,UInt16.reduceOfNat,UInt32.reduceOfNat,UInt64.reduceOfNat,UInt64.reduceToNat,UInt32.reduceToNat,UInt16.reduceToNat,UInt8.reduceToNat,Int.reduceAdd,Int.reduceSub,Int.reduceMul,Nat.reduceMul,Qp0,Ql0,Qe0]
    exact ⟨_, PH.Le.new1 (how.le.new _ _ (Nat.le_trans how.le.top hbe)) (by rw [PH.new_m, if_pos rfl]), be, rfl, Nat.le_trans how.le.top hbe, rfl⟩
set_option maxRecDepth 20000 in
set_option maxHeartbeats 4000000 in
theorem dec_bad2 (s : List UInt8) (w0 : World) (h : PH) (hs : s.length ≤ 4000000) (hg : ∀ c ∈ s, 0 ≤ idx c) (hd : decN (nums s) = none) :
    PCalls Tryz.prog w0 28 [str s] h fun v h' => ∃ be, v = .tuple #[str [], errV be] ∧ h.top ≤ be ∧ h' = h.new be ⟨[str textT, .int .i64 (decEnd s), codeV 2], 3⟩ := by
  refine PCalls_body Tryz.func28 (by kernel_rfl) rfl _ Tryz.ntmps28 (by kernel_rfl) (by kernel_rfl) _ Tryz.results28 ?_
  simp -dsimp -implicitDefEqProofs (disch := first | omega | assumption | (simp only [Option.isSome_some,Qt0]; done) | (simp only [UInt64.reduceToNat,UInt32.reduceToNat,UInt8.reduceToNat,List.length_cons,List.length_nil,List.length_append,Int.toNat_natCast] <;> omega)) only [Nat.reduceLT,Nat.reduceLeDiff,Nat.reduceEqDiff,↓reduceIte,Int.reduceLT,Int.reduceLE,Int.reduceToNat,Int.reduceEq,Int.reduceNe,Nat.reduceAdd,UInt8.reduceOfNat,UInt16.reduceOfNat,UInt32.reduceOfNat,UInt64.reduceOfNat,UInt64.reduceToNat,UInt32.reduceToNat,UInt16.reduceToNat,UInt8.reduceToNat,Int.reduceAdd,Int.reduceSub,Int.reduceMul,Nat.reduceMul,Qp0,Ql0,Qe0]
  refine PW_loop (fun n f h' => ∃ (k : Nat) (v : Value), k ≤ s.length ∧ n = s.length - k ∧ f 0 = some (str s) ∧ f 5 = some (.int .i64 k) ∧ f 4 = some v ∧ OwnS h h' 1 v k (wst (nums (s.take k)))) (by kernel_rfl) s.length ⟨0, .slice none 0 0, by omega, by omega, ?_, ?_, ?_, OwnS.nil h 1⟩ ?_
  · simp -dsimp -implicitDefEqProofs (disch := first | omega | assumption | (simp only [Option.isSome_some,Qt0]; done) | (simp only [UInt64.reduceToNat,UInt32.reduceToNat,UInt8.reduceToNat,List.length_cons,List.length_nil,List.length_append,Int.toNat_natCast] <;> omega)) only [Nat.reduceLT,Nat.reduceLeDiff,Nat.reduceEqDiff,↓reduceIte,Int.reduceLT,Int.reduceLE,Int.reduceToNat,Int.reduceEq,Int.reduceNe,Nat.reduceAdd,UInt8.reduceOfNat,UInt16.reduceOfNat,UInt32.reduceOfNat,UInt64.reduceOfNat,UInt64.reduceToNat,UInt32.reduceToNat,UInt16.reduceToNat,UInt8.reduceToNat,Int.reduceAdd,Int.reduceSub,Int.reduceMul,Nat.reduceMul,Qp0,Ql0,Qe0]
  · simp -dsimp -implicitDefEqProofs (disch := first | omega | assumption | (simp only [Option.isSome_some,Qt0]; done) | (simp only [UInt64.reduceToNat,UInt32.reduceToNat,UInt8.reduceToNat,List.length_cons,List.length_nil,List.length_append,Int.toNat_natCast] <;> omega)) only [Nat.reduceLT,Nat.reduceLeDiff,Nat.reduceEqDiff,↓reduceIte,Int.reduceLT,Int.reduceLE,Int.reduceToNat,Int.reduceEq,Int.reduceNe,Nat.reduceAdd,UInt8.reduceOfNat,UInt16.reduceOfNat,UInt32.reduceOfNat,UInt64.reduceOfNat,UInt64.reduceToNat,UInt32.reduceToNat,UInt16.reduceToNat,UInt8.reduceToNat,Int.reduceAdd,Int.reduceSub,Int.reduceMul,Nat.reduceMul,Qp0,Ql0,Qe0]
  · simp -dsimp -implicitDefEqProofs (disch := first | omega | assumption | (simp only [Option.isSome_some,Qt0]; done) | (simp only [UInt64.reduceToNat,UInt32.reduceToNat,UInt8.reduceToNat,List.length_cons,List.length_nil,List.length_append,Int.toNat_natCast] <;> omega)) only [Nat.reduceLT,Nat.reduceLeDiff,Nat.reduceEqDiff,↓reduceIte,Int.reduceLT,Int.reduceLE,Int.reduceToNat,Int.reduceEq,Int.reduceNe,Nat.reduceAdd,UInt8.reduceOfNat,UInt16.reduceOfNat,UInt32.reduceOfNat,UInt64.reduceOfNat,UInt64.reduceToNat,UInt32.reduceToNat,UInt16.reduceToNat,UInt8.reduceToNat,Int.reduceAdd,Int.reduceSub,Int.reduceMul,Nat.reduceMul,Qp0,Ql0,Qe0]
  rintro n f h' ⟨k, v, hk, rfl, h0, h5, h4, how⟩
  by_cases hlt : k < s.length
  · have hn := nums_snoc s k hlt
    obtain ⟨c, hc⟩ : ∃ c, c = s.getD k 0 := ⟨_, rfl⟩
    have hin : c ∈ s := by rw [hc, List.getD, List.getElem?_eq_getElem hlt]; exact List.getElem_mem hlt
    have hcg := hg c hin
    rw [← hc] at hn
    have hcall : PCalls Tryz.prog w0 51 [str [65, 66, 67, 68, 69, 70, 71, 72, 73, 74, 75, 76, 77, 78, 79, 80, 81, 82, 83, 84, 85, 86, 87, 88, 89, 90, 97, 98, 99, 100, 101, 102, 103, 104, 105, 106, 107, 108, 109, 110, 111, 112, 113, 114, 115, 116, 117, 118, 119, 120, 121, 122, 48, 49, 50, 51, 52, 53, 54, 55, 56, 57, 45, 95], u8 c] h' fun v h2 => v = .int .i64 (idx c) ∧ h2 = h' := index_any letters c w0 h'
    simp -dsimp -implicitDefEqProofs (disch := first | omega | assumption | (simp only [Option.isSome_some,Qt0]; done) | (simp only [UInt64.reduceToNat,UInt32.reduceToNat,UInt8.reduceToNat,List.length_cons,List.length_nil,List.length_append,Int.toNat_natCast] <;> omega)) only [Nat.reduceLT,Nat.reduceLeDiff,Nat.reduceEqDiff,↓reduceIte,Int.reduceLT,Int.reduceLE,Int.reduceToNat,Int.reduceEq,Int.reduceNe,Nat.reduceAdd,UInt8.reduceOfNat,UInt16.reduceOfNat,UInt32.reduceOfNat,UInt64.reduceOfNat,UInt64.reduceToNat,UInt32.reduceToNat,UInt16.reduceToNat,UInt8.reduceToNat,Int.reduceAdd,Int.reduceSub,Int.reduceMul,Nat.reduceMul,Qp0,Ql0,Qe0,h0,h5,← hc]
    refine hcall.mono ?_
    rintro u h2 ⟨rfl, rfl⟩
    simp -dsimp -implicitDefEqProofs (disch := first | omega | assumption | (simp only [Option.isSome_some,Qt0]; done) | (simp only [UInt64.reduceToNat,UInt32.reduceToNat,UInt8.reduceToNat,List.length_cons,List.length_nil,List.length_append,Int.toNat_natCast] <;> omega)) only [Nat.reduceLT,Nat.reduceLeDiff,Nat.reduceEqDiff,↓reduceIte,Int.reduceLT,Int.reduceLE,Int.reduceToNat,Int.reduceEq,Int.reduceNe,Nat.reduceAdd,UInt8.reduceOfNat,UInt16.reduceOfNat,UInt32.reduceOfNat,UInt64.reduceOfNat,UInt64.reduceToNat,UInt32.reduceToNat,UInt16.reduceToNat,UInt8.reduceToNat,Int.reduceAdd,Int.reduceSub,Int.reduceMul,Nat.reduceMul,Qp0,Ql0,Qe0,h0,h5,h4]
    refine Does_one (v := u32 _) el_u32t rfl (by omega) (fun gb hgb => ?_)
    simp -dsimp -implicitDefEqProofs (disch := first | omega | assumption | (simp only [Option.isSome_some,Qt0]; done) | (simp only [UInt64.reduceToNat,UInt32.reduceToNat,UInt8.reduceToNat,List.length_cons,List.length_nil,List.length_append,Int.toNat_natCast] <;> omega)) only [Nat.reduceLT,Nat.reduceLeDiff,Nat.reduceEqDiff,↓reduceIte,Int.reduceLT,Int.reduceLE,Int.reduceToNat,Int.reduceEq,Int.reduceNe,Nat.reduceAdd,UInt8.reduceOfNat,UInt16.reduceOfNat,UInt32.reduceOfNat,UInt64.reduceOfNat,UInt64.reduceToNat,UInt32.reduceToNat,UInt16.reduceToNat,UInt8.reduceToNat,Int.reduceAdd,Int.reduceSub,Int.reduceMul,Nat.reduceMul,Qp0,Ql0,Qe0,h0,h5,h4]
    refine Does_app el_u32t (how.more ((PH.Le.refl _).new _ _ hgb)).own (Rs.blk (k := ⟨[u32 (UInt32.ofInt (idx c))], 1⟩) (by rw [PH.new_m, if_pos rfl]; rfl) rfl) (wst_one [UInt32.ofInt (idx c)]) (by unfold maxLen; omega) (by omega) (fun v' h3' ho hst => ?_)
    have hou' := (how.more ((PH.Le.refl _).new _ _ hgb)).stays hst ho
    rw [hn] at hou'
    simp -dsimp -implicitDefEqProofs (disch := first | omega | assumption | (simp only [Option.isSome_some,Qt0]; done) | (simp only [UInt64.reduceToNat,UInt32.reduceToNat,UInt8.reduceToNat,List.length_cons,List.length_nil,List.length_append,Int.toNat_natCast] <;> omega)) only [Nat.reduceLT,Nat.reduceLeDiff,Nat.reduceEqDiff,↓reduceIte,Int.reduceLT,Int.reduceLE,Int.reduceToNat,Int.reduceEq,Int.reduceNe,Nat.reduceAdd,UInt8.reduceOfNat,UInt16.reduceOfNat,UInt32.reduceOfNat,UInt64.reduceOfNat,UInt64.reduceToNat,UInt32.reduceToNat,UInt16.reduceToNat,UInt8.reduceToNat,Int.reduceAdd,Int.reduceSub,Int.reduceMul,Nat.reduceMul,Qp0,Ql0,Qe0,h0,h5,h4]
    refine ⟨_, h3', by omega, PH.Le.refl _, k + 1, v', by omega, rfl, ?_, ?_, ?_, hou'⟩
    · first | rfl | (simp; done)
    · first | rfl | (simp; done)
    · first | rfl | (simp; done)
  · obtain rfl : k = s.length := by omega
    rw [List.take_length] at how
    obtain ⟨A0, c0, rfl, hc0⟩ := how.own.len
    have hNl : (nums s).length = s.length := by simp [nums]
    simp -dsimp -implicitDefEqProofs (disch := first | omega | assumption | (simp only [Option.isSome_some,Qt0]; done) | (simp only [UInt64.reduceToNat,UInt32.reduceToNat,UInt8.reduceToNat,List.length_cons,List.length_nil,List.length_append,Int.toNat_natCast] <;> omega)) only [Nat.reduceLT,Nat.reduceLeDiff,Nat.reduceEqDiff,↓reduceIte,Int.reduceLT,Int.reduceLE,Int.reduceToNat,Int.reduceEq,Int.reduceNe,Nat.reduceAdd,UInt8.reduceOfNat,UInt16.reduceOfNat,UInt32.reduceOfNat,UInt64.reduceOfNat,UInt64.reduceToNat,UInt32.reduceToNat,UInt16.reduceToNat,UInt8.reduceToNat,Int.reduceAdd,Int.reduceSub,Int.reduceMul,Nat.reduceMul,Qp0,Ql0,Qe0,h0,h5,h4]
    refine PW_loop (fun n f h2 => ∃ (r : List UInt32) (d : List UInt8) (A : Option Addr) (c o : Nat) (u : Value), r.length = n ∧ f 0 = some (str s) ∧ f 4 = some (.slice A r.length c) ∧ f 7 = some u ∧ OwnS h' h2 1 u d.length (bs d) ∧ decN r = none ∧ r.length % 4 = s.length % 4 ∧ d.length + r.length ≤ s.length ∧ r.length ≤ c ∧ (0 < r.length → ∃ b lim, A = some ⟨b, o, none⟩ ∧ h'.m b = some ⟨wst (nums s), lim⟩) ∧ (nums s).drop o = r) (by kernel_rfl) s.length
      ⟨nums s, [], A0, c0, 0, .slice none 0 0, hNl, ?_, ?_, ?_, OwnS.nil h' 1, hd, by rw [hNl], by rw [hNl]; simp, by rw [hNl]; exact hc0, ?_, rfl⟩ ?_
    · simp -dsimp -implicitDefEqProofs (disch := first | omega | assumption | (simp only [Option.isSome_some,Qt0]; done) | (simp only [UInt64.reduceToNat,UInt32.reduceToNat,UInt8.reduceToNat,List.length_cons,List.length_nil,List.length_append,Int.toNat_natCast] <;> omega)) only [Nat.reduceLT,Nat.reduceLeDiff,Nat.reduceEqDiff,↓reduceIte,Int.reduceLT,Int.reduceLE,Int.reduceToNat,Int.reduceEq,Int.reduceNe,Nat.reduceAdd,UInt8.reduceOfNat,UInt16.reduceOfNat,UInt32.reduceOfNat,UInt64.reduceOfNat,UInt64.reduceToNat,UInt32.reduceToNat,UInt16.reduceToNat,UInt8.reduceToNat,Int.reduceAdd,Int.reduceSub,Int.reduceMul,Nat.reduceMul,Qp0,Ql0,Qe0,h0]
    · simp -dsimp -implicitDefEqProofs (disch := first | omega | assumption | (simp only [Option.isSome_some,Qt0]; done) | (simp only [UInt64.reduceToNat,UInt32.reduceToNat,UInt8.reduceToNat,List.length_cons,List.length_nil,List.length_append,Int.toNat_natCast] <;> omega)) only [Nat.reduceLT,Nat.reduceLeDiff,Nat.reduceEqDiff,↓reduceIte,Int.reduceLT,Int.reduceLE,Int.reduceToNat,Int.reduceEq,Int.reduceNe,Nat.reduceAdd,UInt8.reduceOfNat,UInt16.reduceOfNat,UInt32.reduceOfNat,UInt64.reduceOfNat,UInt64.reduceToNat,UInt32.reduceToNat,UInt16.reduceToNat,UInt8.reduceToNat,Int.reduceAdd,Int.reduceSub,Int.reduceMul,Nat.reduceMul,Qp0,Ql0,Qe0,h4,hNl]
    · simp -dsimp -implicitDefEqProofs (disch := first | omega | assumption | (simp only [Option.isSome_some,Qt0]; done) | (simp only [UInt64.reduceToNat,UInt32.reduceToNat,UInt8.reduceToNat,List.length_cons,List.length_nil,List.length_append,Int.toNat_natCast] <;> omega)) only [Nat.reduceLT,Nat.reduceLeDiff,Nat.reduceEqDiff,↓reduceIte,Int.reduceLT,Int.reduceLE,Int.reduceToNat,Int.reduceEq,Int.reduceNe,Nat.reduceAdd,UInt8.reduceOfNat,UInt16.reduceOfNat,UInt32.reduceOfNat,UInt64.reduceOfNat,UInt64.reduceToNat,UInt32.reduceToNat,UInt16.reduceToNat,UInt8.reduceToNat,Int.reduceAdd,Int.reduceSub,Int.reduceMul,Nat.reduceMul,Qp0,Ql0,Qe0]
    · intro hp
      obtain ⟨b, c, e, _, hb⟩ := how.own.pos (by rw [hNl] at hp; exact hp)
      injection e with e1 e2 e3
      exact ⟨b, _, e1, hb⟩
    rintro n f2 h2 ⟨r, d, A, c, o, u, rfl, g0, g4, g7, hou, hdec, hmod, hbd, hrc, hA, hdr⟩
    rcases r with _ | ⟨a, _ | ⟨x, _ | ⟨y, _ | ⟨z, t⟩⟩⟩⟩
    · simp [decN] at hdec
    · have hE : (s.length : Int) = decEnd s := by unfold decEnd; rw [if_pos (by simpa using hmod.symm)]
      have hB := Lib.hid (tbad_any (s.length : Int) w0 h2)
      simp -dsimp -implicitDefEqProofs (disch := first | omega | assumption | (simp only [Option.isSome_some,Qt0]; done) | (simp only [UInt64.reduceToNat,UInt32.reduceToNat,UInt8.reduceToNat,List.length_cons,List.length_nil,List.length_append,Int.toNat_natCast] <;> omega)) only [Nat.reduceLT,Nat.reduceLeDiff,Nat.reduceEqDiff,↓reduceIte,Int.reduceLT,Int.reduceLE,Int.reduceToNat,Int.reduceEq,Int.reduceNe,Nat.reduceAdd,UInt8.reduceOfNat,UInt16.reduceOfNat,UInt32.reduceOfNat,UInt64.reduceOfNat,UInt64.reduceToNat,UInt32.reduceToNat,UInt16.reduceToNat,UInt8.reduceToNat,Int.reduceAdd,Int.reduceSub,Int.reduceMul,Nat.reduceMul,Qp0,Ql0,Qe0,g0,g4,g7]
      refine hB.out.mono ?_
      rintro v hz ⟨be, rfl, hbe, rfl⟩
      rw [hE]
      simp -dsimp -implicitDefEqProofs (disch := first | omega | assumption | (simp only [Option.isSome_some,Qt0]; done) | (simp only [UInt64.reduceToNat,UInt32.reduceToNat,UInt8.reduceToNat,List.length_cons,List.length_nil,List.length_append,Int.toNat_natCast] <;> omega)) only [Nat.reduceLT,Nat.reduceLeDiff,Nat.reduceEqDiff,↓reduceIte,Int.reduceLT,Int.reduceLE,Int.reduceToNat,Int.reduceEq,Int.reduceNe,Nat.reduceAdd,UInt8.reduceOfNat,UInt16.reduceOfNat,UInt32.reduceOfNat,UInt64.reduceOfNat,UInt64.reduceToNat,UInt32.reduceToNat,UInt16.reduceToNat,UInt8.reduceToNat,Int.reduceAdd,Int.reduceSub,Int.reduceMul,Nat.reduceMul,Qp0,Ql0,Qe0]
      exact ⟨_, PH.Le.new1 ((how.le.trans hou.le).new _ _ (Nat.le_trans (how.le.trans hou.le).top hbe)) (by rw [PH.new_m, if_pos rfl]), be, rfl, Nat.le_trans (how.le.trans hou.le).top hbe, rfl⟩
    · have hif : ¬ x &&& 15 = 0 := by
        intro hz
        simp [decN, hz] at hdec
      have hE : (s.length : Int) - 1 = decEnd s := by unfold decEnd; rw [if_neg (by simp at hmod; omega)]
      obtain ⟨b, lim, rfl, hb⟩ := hA (by simp)
      have R : ∀ hh, PH.Le h' hh → ∀ {j : Nat} {v : UInt32}, [a, x][j]? = some v → rd w0 hh ⟨b, o + j, none⟩ = some (u32 v) := fun hh hl j v hv => rd_ws (hl.m b _ hb) hdr hv
      have r0 : rd w0 h' ⟨b, o, none⟩ = some (u32 a) := R h' (PH.Le.refl _) (j := 0) rfl
      have r1 : rd w0 h' ⟨b, o + 1, none⟩ = some (u32 x) := R h' (PH.Le.refl _) (j := 1) rfl
      simp -dsimp -implicitDefEqProofs (disch := first | omega | assumption | (simp only [Option.isSome_some,Qt0]; done) | (simp only [UInt64.reduceToNat,UInt32.reduceToNat,UInt8.reduceToNat,List.length_cons,List.length_nil,List.length_append,Int.toNat_natCast] <;> omega)) only [Nat.reduceLT,Nat.reduceLeDiff,Nat.reduceEqDiff,↓reduceIte,Int.reduceLT,Int.reduceLE,Int.reduceToNat,Int.reduceEq,Int.reduceNe,Nat.reduceAdd,UInt8.reduceOfNat,UInt16.reduceOfNat,UInt32.reduceOfNat,UInt64.reduceOfNat,UInt64.reduceToNat,UInt32.reduceToNat,UInt16.reduceToNat,UInt8.reduceToNat,Int.reduceAdd,Int.reduceSub,Int.reduceMul,Nat.reduceMul,Qp0,Ql0,Qe0,g0,g4,g7]
      refine PW_drawn 11 h' (by kernel_rfl) (by kernel_rfl) (by kernel_rfl) (by kernel_rfl) (by kernel_rfl) (fun c f h hq => by simp only [thenC_panic, thenK_panic, inBlk_panic, thenN_panic, vcRet_panic] at hq) hou.le.sub ?_
      simp -dsimp -implicitDefEqProofs (disch := first | omega | assumption | (simp only [Option.isSome_some,Qt0]; done) | (simp only [UInt64.reduceToNat,UInt32.reduceToNat,UInt8.reduceToNat,List.length_cons,List.length_nil,List.length_append,Int.toNat_natCast] <;> omega)) only [Nat.reduceLT,Nat.reduceLeDiff,Nat.reduceEqDiff,↓reduceIte,Int.reduceLT,Int.reduceLE,Int.reduceToNat,Int.reduceEq,Int.reduceNe,Nat.reduceAdd,UInt8.reduceOfNat,UInt16.reduceOfNat,UInt32.reduceOfNat,UInt64.reduceOfNat,UInt64.reduceToNat,UInt32.reduceToNat,UInt16.reduceToNat,UInt8.reduceToNat,Int.reduceAdd,Int.reduceSub,Int.reduceMul,Nat.reduceMul,Qp0,Ql0,Qe0,g0,g4,g7,r0,r1]
      refine Does_cells (vs := bs [two a x]) el_u8d rfl (by omega) (by omega) (fill1 _) (fun gb hgb => ?_)
      simp -dsimp -implicitDefEqProofs (disch := first | omega | assumption | (simp only [Option.isSome_some,Qt0]; done) | (simp only [UInt64.reduceToNat,UInt32.reduceToNat,UInt8.reduceToNat,List.length_cons,List.length_nil,List.length_append,Int.toNat_natCast] <;> omega)) only [Nat.reduceLT,Nat.reduceLeDiff,Nat.reduceEqDiff,↓reduceIte,Int.reduceLT,Int.reduceLE,Int.reduceToNat,Int.reduceEq,Int.reduceNe,Nat.reduceAdd,UInt8.reduceOfNat,UInt16.reduceOfNat,UInt32.reduceOfNat,UInt64.reduceOfNat,UInt64.reduceToNat,UInt32.reduceToNat,UInt16.reduceToNat,UInt8.reduceToNat,Int.reduceAdd,Int.reduceSub,Int.reduceMul,Nat.reduceMul,Qp0,Ql0,Qe0,g0,g4,g7]
      refine ⟨(hou.le.new _ _ (Nat.le_trans hou.le.top hgb)).sub, ?_⟩
      simp -dsimp -implicitDefEqProofs (disch := first | omega | assumption | (simp only [Option.isSome_some,Qt0]; done) | (simp only [UInt64.reduceToNat,UInt32.reduceToNat,UInt8.reduceToNat,List.length_cons,List.length_nil,List.length_append,Int.toNat_natCast] <;> omega)) only [Nat.reduceLT,Nat.reduceLeDiff,Nat.reduceEqDiff,↓reduceIte,Int.reduceLT,Int.reduceLE,Int.reduceToNat,Int.reduceEq,Int.reduceNe,Nat.reduceAdd,UInt8.reduceOfNat,UInt16.reduceOfNat,UInt32.reduceOfNat,UInt64.reduceOfNat,UInt64.reduceToNat,UInt32.reduceToNat,UInt16.reduceToNat,UInt8.reduceToNat,Int.reduceAdd,Int.reduceSub,Int.reduceMul,Nat.reduceMul,Qp0,Ql0,Qe0,g0,g4,g7]
      refine Does_app el_u8d (hou.more ((PH.Le.refl _).new _ _ hgb)).own (Rs.blk (k := ⟨bs [two a x], 1⟩) (by rw [PH.new_m, if_pos rfl]) rfl) (bs_one _) (by simp at hbd; unfold maxLen; omega) (by simp at hbd; omega) (fun v' h3' ho hst => ?_)
      have hou' := (hou.more ((PH.Le.refl _).new _ _ hgb)).stays hst ho
      rw [← bs_append] at hou'
      simp -dsimp -implicitDefEqProofs (disch := first | omega | assumption | (simp only [Option.isSome_some,Qt0]; done) | (simp only [UInt64.reduceToNat,UInt32.reduceToNat,UInt8.reduceToNat,List.length_cons,List.length_nil,List.length_append,Int.toNat_natCast] <;> omega)) only [Nat.reduceLT,Nat.reduceLeDiff,Nat.reduceEqDiff,↓reduceIte,Int.reduceLT,Int.reduceLE,Int.reduceToNat,Int.reduceEq,Int.reduceNe,Nat.reduceAdd,UInt8.reduceOfNat,UInt16.reduceOfNat,UInt32.reduceOfNat,UInt64.reduceOfNat,UInt64.reduceToNat,UInt32.reduceToNat,UInt16.reduceToNat,UInt8.reduceToNat,Int.reduceAdd,Int.reduceSub,Int.reduceMul,Nat.reduceMul,Qp0,Ql0,Qe0,g0,g4,g7]
      refine ⟨hou'.le.sub, ?_⟩
      have q1 : rd w0 h3' ⟨b, o + 1, none⟩ = some (u32 x) := R h3' hou'.le (j := 1) rfl
      obtain ⟨A7, c7, rfl, _⟩ := hou'.own.len
      have hB := Lib.hid (tbad_any ((s.length : Int) - 1) w0 h3')
      simp -dsimp -implicitDefEqProofs (disch := first | omega | assumption | (simp only [Option.isSome_some,Qt0]; done) | (simp only [UInt64.reduceToNat,UInt32.reduceToNat,UInt8.reduceToNat,List.length_cons,List.length_nil,List.length_append,Int.toNat_natCast] <;> omega)) only [Nat.reduceLT,Nat.reduceLeDiff,Nat.reduceEqDiff,↓reduceIte,Int.reduceLT,Int.reduceLE,Int.reduceToNat,Int.reduceEq,Int.reduceNe,Nat.reduceAdd,UInt8.reduceOfNat,UInt16.reduceOfNat,UInt32.reduceOfNat,UInt64.reduceOfNat,UInt64.reduceToNat,UInt32.reduceToNat,UInt16.reduceToNat,UInt8.reduceToNat,Int.reduceAdd,Int.reduceSub,Int.reduceMul,Nat.reduceMul,Qp0,Ql0,Qe0,g0,g4,g7,q1,hif]
      refine hB.out.mono ?_
      rintro v hz ⟨be, rfl, hbe, rfl⟩
      rw [hE]
      simp -dsimp -implicitDefEqProofs (disch := first | omega | assumption | (simp only [Option.isSome_some,Qt0]; done) | (simp only [UInt64.reduceToNat,UInt32.reduceToNat,UInt8.reduceToNat,List.length_cons,List.length_nil,List.length_append,Int.toNat_natCast] <;> omega)) only [Nat.reduceLT,Nat.reduceLeDiff,Nat.reduceEqDiff,↓reduceIte,Int.reduceLT,Int.reduceLE,Int.reduceToNat,Int.reduceEq,Int.reduceNe,Nat.reduceAdd,UInt8.reduceOfNat,UInt16.reduceOfNat,UInt32.reduceOfNat,UInt64.reduceOfNat,UInt64.reduceToNat,UInt32.reduceToNat,UInt16.reduceToNat,UInt8.reduceToNat,Int.reduceAdd,Int.reduceSub,Int.reduceMul,Nat.reduceMul,Qp0,Ql0,Qe0]
      exact ⟨_, PH.Le.new1 ((how.le.trans hou'.le).new _ _ (Nat.le_trans (how.le.trans hou'.le).top hbe)) (by rw [PH.new_m, if_pos rfl]), be, rfl, Nat.le_trans (how.le.trans hou'.le).top hbe, rfl⟩
    · have hif : ¬ y &&& 3 = 0 := by
        intro hz
        simp [decN, hz] at hdec
      have hE : (s.length : Int) - 1 = decEnd s := by unfold decEnd; rw [if_neg (by simp at hmod; omega)]
      obtain ⟨b, lim, rfl, hb⟩ := hA (by simp)
      have R : ∀ hh, PH.Le h' hh → ∀ {j : Nat} {v : UInt32}, [a, x, y][j]? = some v → rd w0 hh ⟨b, o + j, none⟩ = some (u32 v) := fun hh hl j v hv => rd_ws (hl.m b _ hb) hdr hv
      have r0 : rd w0 h' ⟨b, o, none⟩ = some (u32 a) := R h' (PH.Le.refl _) (j := 0) rfl
      have r1 : rd w0 h' ⟨b, o + 1, none⟩ = some (u32 x) := R h' (PH.Le.refl _) (j := 1) rfl
      have r2 : rd w0 h' ⟨b, o + 2, none⟩ = some (u32 y) := R h' (PH.Le.refl _) (j := 2) rfl
      simp -dsimp -implicitDefEqProofs (disch := first | omega | assumption | (simp only [Option.isSome_some,Qt0]; done) | (simp only [UInt64.reduceToNat,UInt32.reduceToNat,UInt8.reduceToNat,List.length_cons,List.length_nil,List.length_append,Int.toNat_natCast] <;> omega)) only [Nat.reduceLT,Nat.reduceLeDiff,Nat.reduceEqDiff,↓reduceIte,Int.reduceLT,Int.reduceLE,Int.reduceToNat,Int.reduceEq,Int.reduceNe,Nat.reduceAdd,UInt8.reduceOfNat,UInt16.reduceOfNat,UInt32.reduceOfNat,UInt64.reduceOfNat,UInt64.reduceToNat,UInt32.reduceToNat,UInt16.reduceToNat,UInt8.reduceToNat,Int.reduceAdd,Int.reduceSub,Int.reduceMul,Nat.reduceMul,Qp0,Ql0,Qe0,g0,g4,g7]
      refine PW_drawn 21 h' (by kernel_rfl) (by kernel_rfl) (by kernel_rfl) (by kernel_rfl) (by kernel_rfl) (fun c f h hq => by simp only [thenC_panic, thenK_panic, inBlk_panic, thenN_panic, vcRet_panic] at hq) hou.le.sub ?_
      simp -dsimp -implicitDefEqProofs (disch := first | omega | assumption | (simp only [Option.isSome_some,Qt0]; done) | (simp only [UInt64.reduceToNat,UInt32.reduceToNat,UInt8.reduceToNat,List.length_cons,List.length_nil,List.length_append,Int.toNat_natCast] <;> omega)) only [Nat.reduceLT,Nat.reduceLeDiff,Nat.reduceEqDiff,↓reduceIte,Int.reduceLT,Int.reduceLE,Int.reduceToNat,Int.reduceEq,Int.reduceNe,Nat.reduceAdd,UInt8.reduceOfNat,UInt16.reduceOfNat,UInt32.reduceOfNat,UInt64.reduceOfNat,UInt64.reduceToNat,UInt32.reduceToNat,UInt16.reduceToNat,UInt8.reduceToNat,Int.reduceAdd,Int.reduceSub,Int.reduceMul,Nat.reduceMul,Qp0,Ql0,Qe0,g0,g4,g7,r0,r1,r2]
      refine Does_cells (vs := bs [two a x, three x y]) el_u8d rfl (by omega) (by omega) (fill2 _ _) (fun gb hgb => ?_)
      simp -dsimp -implicitDefEqProofs (disch := first | omega | assumption | (simp only [Option.isSome_some,Qt0]; done) | (simp only [UInt64.reduceToNat,UInt32.reduceToNat,UInt8.reduceToNat,List.length_cons,List.length_nil,List.length_append,Int.toNat_natCast] <;> omega)) only [Nat.reduceLT,Nat.reduceLeDiff,Nat.reduceEqDiff,↓reduceIte,Int.reduceLT,Int.reduceLE,Int.reduceToNat,Int.reduceEq,Int.reduceNe,Nat.reduceAdd,UInt8.reduceOfNat,UInt16.reduceOfNat,UInt32.reduceOfNat,UInt64.reduceOfNat,UInt64.reduceToNat,UInt32.reduceToNat,UInt16.reduceToNat,UInt8.reduceToNat,Int.reduceAdd,Int.reduceSub,Int.reduceMul,Nat.reduceMul,Qp0,Ql0,Qe0,g0,g4,g7]
      refine ⟨(hou.le.new _ _ (Nat.le_trans hou.le.top hgb)).sub, ?_⟩
      simp -dsimp -implicitDefEqProofs (disch := first | omega | assumption | (simp only [Option.isSome_some,Qt0]; done) | (simp only [UInt64.reduceToNat,UInt32.reduceToNat,UInt8.reduceToNat,List.length_cons,List.length_nil,List.length_append,Int.toNat_natCast] <;> omega)) only [Nat.reduceLT,Nat.reduceLeDiff,Nat.reduceEqDiff,↓reduceIte,Int.reduceLT,Int.reduceLE,Int.reduceToNat,Int.reduceEq,Int.reduceNe,Nat.reduceAdd,UInt8.reduceOfNat,UInt16.reduceOfNat,UInt32.reduceOfNat,UInt64.reduceOfNat,UInt64.reduceToNat,UInt32.reduceToNat,UInt16.reduceToNat,UInt8.reduceToNat,Int.reduceAdd,Int.reduceSub,Int.reduceMul,Nat.reduceMul,Qp0,Ql0,Qe0,g0,g4,g7]
      refine Does_app el_u8d (hou.more ((PH.Le.refl _).new _ _ hgb)).own (Rs.blk (k := ⟨bs [two a x, three x y], 2⟩) (by rw [PH.new_m, if_pos rfl]) rfl) (bs_one _) (by simp at hbd; unfold maxLen; omega) (by simp at hbd; omega) (fun v' h3' ho hst => ?_)
      have hou' := (hou.more ((PH.Le.refl _).new _ _ hgb)).stays hst ho
      rw [← bs_append] at hou'
      simp -dsimp -implicitDefEqProofs (disch := first | omega | assumption | (simp only [Option.isSome_some,Qt0]; done) | (simp only [UInt64.reduceToNat,UInt32.reduceToNat,UInt8.reduceToNat,List.length_cons,List.length_nil,List.length_append,Int.toNat_natCast] <;> omega)) only [Nat.reduceLT,Nat.reduceLeDiff,Nat.reduceEqDiff,↓reduceIte,Int.reduceLT,Int.reduceLE,Int.reduceToNat,Int.reduceEq,Int.reduceNe,Nat.reduceAdd,UInt8.reduceOfNat,UInt16.reduceOfNat,UInt32.reduceOfNat,UInt64.reduceOfNat,UInt64.reduceToNat,UInt32.reduceToNat,UInt16.reduceToNat,UInt8.reduceToNat,Int.reduceAdd,Int.reduceSub,Int.reduceMul,Nat.reduceMul,Qp0,Ql0,Qe0,g0,g4,g7]
      refine ⟨hou'.le.sub, ?_⟩
      have q2 : rd w0 h3' ⟨b, o + 2, none⟩ = some (u32 y) := R h3' hou'.le (j := 2) rfl
      obtain ⟨A7, c7, rfl, _⟩ := hou'.own.len
      have hB := Lib.hid (tbad_any ((s.length : Int) - 1) w0 h3')
      simp -dsimp -implicitDefEqProofs (disch := first | omega | assumption | (simp only [Option.isSome_some,Qt0]; done) | (simp only [UInt64.reduceToNat,UInt32.reduceToNat,UInt8.reduceToNat,List.length_cons,List.length_nil,List.length_append,Int.toNat_natCast] <;> omega)) only [Nat.reduceLT,Nat.reduceLeDiff,Nat.reduceEqDiff,↓reduceIte,Int.reduceLT,Int.reduceLE,Int.reduceToNat,Int.reduceEq,Int.reduceNe,Nat.reduceAdd,UInt8.reduceOfNat,UInt16.reduceOfNat,UInt32.reduceOfNat,UInt64.reduceOfNat,UInt64.reduceToNat,UInt32.reduceToNat,UInt16.reduceToNat,UInt8.reduceToNat,Int.reduceAdd,Int.reduceSub,Int.reduceMul,Nat.reduceMul,Qp0,Ql0,Qe0,g0,g4,g7,q2,hif]
      refine hB.out.mono ?_
      rintro v hz ⟨be, rfl, hbe, rfl⟩
      rw [hE]
      simp -dsimp -implicitDefEqProofs (disch := first | omega | assumption | (simp only [Option.isSome_some,Qt0]; done) | (simp only [UInt64.reduceToNat,UInt32.reduceToNat,UInt8.reduceToNat,List.length_cons,List.length_nil,List.length_append,Int.toNat_natCast] <;> omega)) only [Nat.reduceLT,Nat.reduceLeDiff,Nat.reduceEqDiff,↓reduceIte,Int.reduceLT,Int.reduceLE,Int.reduceToNat,Int.reduceEq,Int.reduceNe,Nat.reduceAdd,UInt8.reduceOfNat,UInt16.reduceOfNat,UInt32.reduceOfNat,UInt64.reduceOfNat,UInt64.reduceToNat,UInt32.reduceToNat,UInt16.reduceToNat,UInt8.reduceToNat,Int.reduceAdd,Int.reduceSub,Int.reduceMul,Nat.reduceMul,Qp0,Ql0,Qe0]
      exact ⟨_, PH.Le.new1 ((how.le.trans hou'.le).new _ _ (Nat.le_trans (how.le.trans hou'.le).top hbe)) (by rw [PH.new_m, if_pos rfl]), be, rfl, Nat.le_trans (how.le.trans hou'.le).top hbe, rfl⟩
    · obtain ⟨b, lim, rfl, hb⟩ := hA (by simp)
      have R : ∀ hh, PH.Le h' hh → ∀ {j : Nat} {v : UInt32}, (a :: x :: y :: z :: t)[j]? = some v → rd w0 hh ⟨b, o + j, none⟩ = some (u32 v) := fun hh hl j v hv => rd_ws (hl.m b _ hb) hdr hv
      have r0 : rd w0 h' ⟨b, o, none⟩ = some (u32 a) := R h' (PH.Le.refl _) (j := 0) rfl
      have r1 : rd w0 h' ⟨b, o + 1, none⟩ = some (u32 x) := R h' (PH.Le.refl _) (j := 1) rfl
      have r2 : rd w0 h' ⟨b, o + 2, none⟩ = some (u32 y) := R h' (PH.Le.refl _) (j := 2) rfl
      have r3 : rd w0 h' ⟨b, o + 3, none⟩ = some (u32 z) := R h' (PH.Le.refl _) (j := 3) rfl
      simp -dsimp -implicitDefEqProofs (disch := first | omega | assumption | (simp only [Option.isSome_some,Qt0]; done) | (simp only [UInt64.reduceToNat,UInt32.reduceToNat,UInt8.reduceToNat,List.length_cons,List.length_nil,List.length_append,Int.toNat_natCast] <;> omega)) only [Nat.reduceLT,Nat.reduceLeDiff,Nat.reduceEqDiff,↓reduceIte,Int.reduceLT,Int.reduceLE,Int.reduceToNat,Int.reduceEq,Int.reduceNe,Nat.reduceAdd,UInt8.reduceOfNat,UInt16.reduceOfNat,UInt32.reduceOfNat,UInt64.reduceOfNat,UInt64.reduceToNat,UInt32.reduceToNat,UInt16.reduceToNat,UInt8.reduceToNat,Int.reduceAdd,Int.reduceSub,Int.reduceMul,Nat.reduceMul,Qp0,Ql0,Qe0,g0,g4,g7]
      refine PW_drawn 19 h' (by kernel_rfl) (by kernel_rfl) (by kernel_rfl) (by kernel_rfl) (by kernel_rfl) (fun c f h hq => by simp only [thenC_panic, thenK_panic, inBlk_panic, thenN_panic, vcRet_panic] at hq) hou.le.sub ?_
      simp -dsimp -implicitDefEqProofs (disch := first | omega | assumption | (simp only [Option.isSome_some,Qt0]; done) | (simp only [UInt64.reduceToNat,UInt32.reduceToNat,UInt8.reduceToNat,List.length_cons,List.length_nil,List.length_append,Int.toNat_natCast] <;> omega)) only [Nat.reduceLT,Nat.reduceLeDiff,Nat.reduceEqDiff,↓reduceIte,Int.reduceLT,Int.reduceLE,Int.reduceToNat,Int.reduceEq,Int.reduceNe,Nat.reduceAdd,UInt8.reduceOfNat,UInt16.reduceOfNat,UInt32.reduceOfNat,UInt64.reduceOfNat,UInt64.reduceToNat,UInt32.reduceToNat,UInt16.reduceToNat,UInt8.reduceToNat,Int.reduceAdd,Int.reduceSub,Int.reduceMul,Nat.reduceMul,Qp0,Ql0,Qe0,g0,g4,g7,r0,r1,r2,r3]
      refine Does_cells (vs := bs [(four a x y z >>> 16).toUInt8, (four a x y z >>> 8).toUInt8, (four a x y z).toUInt8]) el_u8d rfl (by omega) (by omega) (fill3 _ _ _) (fun gb hgb => ?_)
      simp -dsimp -implicitDefEqProofs (disch := first | omega | assumption | (simp only [Option.isSome_some,Qt0]; done) | (simp only [UInt64.reduceToNat,UInt32.reduceToNat,UInt8.reduceToNat,List.length_cons,List.length_nil,List.length_append,Int.toNat_natCast] <;> omega)) only [Nat.reduceLT,Nat.reduceLeDiff,Nat.reduceEqDiff,↓reduceIte,Int.reduceLT,Int.reduceLE,Int.reduceToNat,Int.reduceEq,Int.reduceNe,Nat.reduceAdd,UInt8.reduceOfNat,UInt16.reduceOfNat,UInt32.reduceOfNat,UInt64.reduceOfNat,UInt64.reduceToNat,UInt32.reduceToNat,UInt16.reduceToNat,UInt8.reduceToNat,Int.reduceAdd,Int.reduceSub,Int.reduceMul,Nat.reduceMul,Qp0,Ql0,Qe0,g0,g4,g7]
      refine Does_app el_u8d (hou.more ((PH.Le.refl _).new _ _ hgb)).own (Rs.blk (k := ⟨bs [(four a x y z >>> 16).toUInt8, (four a x y z >>> 8).toUInt8, (four a x y z).toUInt8], 3⟩) (by rw [PH.new_m, if_pos rfl]) rfl) (bs_one _) (by simp at hbd; unfold maxLen; omega) (by simp at hbd; omega) (fun v' h3' ho hst => ?_)
      have hou' := (hou.more ((PH.Le.refl _).new _ _ hgb)).stays hst ho
      rw [← bs_append] at hou'
      simp -dsimp -implicitDefEqProofs (disch := first | omega | assumption | (simp only [Option.isSome_some,Qt0]; done) | (simp only [UInt64.reduceToNat,UInt32.reduceToNat,UInt8.reduceToNat,List.length_cons,List.length_nil,List.length_append,Int.toNat_natCast] <;> omega)) only [Nat.reduceLT,Nat.reduceLeDiff,Nat.reduceEqDiff,↓reduceIte,Int.reduceLT,Int.reduceLE,Int.reduceToNat,Int.reduceEq,Int.reduceNe,Nat.reduceAdd,UInt8.reduceOfNat,UInt16.reduceOfNat,UInt32.reduceOfNat,UInt64.reduceOfNat,UInt64.reduceToNat,UInt32.reduceToNat,UInt16.reduceToNat,UInt8.reduceToNat,Int.reduceAdd,Int.reduceSub,Int.reduceMul,Nat.reduceMul,Qp0,Ql0,Qe0,g0,g4,g7]
      refine ⟨t.length, h3', by omega, PH.Le.refl _, t, d ++ [(four a x y z >>> 16).toUInt8, (four a x y z >>> 8).toUInt8, (four a x y z).toUInt8], cutAt b o 4 (decide (c = 4)), c - 4, o + 4, v', rfl, ?_, ?_, ?_, by simpa using hou', by simpa [decN] using hdec, by simp at hmod; omega, by simp at hbd ⊢; omega, by simp at hrc; omega, ?_, ?_⟩
      · first | rfl | (simp; done)
      · first | rfl | (simp; done)
      · first | rfl | (simp; done)
      · intro hp
        refine ⟨b, lim, ?_, hb⟩
        have : ¬ c = 4 := by simp at hrc; omega
        simp [cutAt, this]
      · have := congrArg (List.drop 4) hdr
        simpa [List.drop_drop, Nat.add_comm] using this
/-- The bytes of letters, or the place that can't be. -/
def firstBad : List UInt8 → Option Nat
  | [] => none
  | c :: t => if idx c < 0 then some 0 else (firstBad t).map (· + 1)
theorem firstBad_none : ∀ {s : List UInt8}, firstBad s = none → ∀ c ∈ s, 0 ≤ idx c
  | [], _, c, hc => by simp at hc
  | a :: t, h, c, hc => by
    unfold firstBad at h
    by_cases ha : idx a < 0
    · rw [if_pos ha] at h; cases h
    · rw [if_neg ha] at h
      rcases List.mem_cons.1 hc with rfl | hc
      · omega
      · exact firstBad_none (by simpa using h) c hc
theorem firstBad_some : ∀ {s : List UInt8} {q : Nat}, firstBad s = some q → q < s.length ∧ idx (s.getD q 0) < 0 ∧ ∀ j, j < q → 0 ≤ idx (s.getD j 0)
  | [], q, h => by cases h
  | a :: t, q, h => by
    unfold firstBad at h
    by_cases ha : idx a < 0
    · rw [if_pos ha] at h; cases h; exact ⟨by simp, ha, fun j hj => absurd hj (by omega)⟩
    · rw [if_neg ha] at h
      obtain ⟨r, hr, rfl⟩ := Option.map_eq_some_iff.1 h
      obtain ⟨h1, h2, h3⟩ := firstBad_some hr
      refine ⟨by simp; omega, by simpa using h2, fun j hj => ?_⟩
      cases j with
      | zero => simp; omega
      | succ j => simpa using h3 j (by omega)
def decR (s : List UInt8) : List UInt8 ⊕ Int := match firstBad s with
  | some q => .inr q
  | none => match decN (nums s) with
    | some out => .inl out
    | none => .inr (decEnd s)
def DecIs (s : List UInt8) (h : PH) (v : Value) (h' : PH) : Prop := match decR s with
  | .inl out => v = .tuple #[str out, .nilIface] ∧ h' = h
  | .inr a => ∃ be, v = .tuple #[str [], errV be] ∧ h.top ≤ be ∧ h' = h.new be ⟨[str textT, .int .i64 a, codeV 2], 3⟩
theorem decR_in {s out : List UInt8} (h : decR s = .inl out) : (∀ c ∈ s, 0 ≤ idx c) ∧ decN (nums s) = some out := by
  unfold decR at h
  cases hf : firstBad s with
  | some q => rw [hf] at h; cases h
  | none =>
    rw [hf] at h
    refine ⟨firstBad_none hf, ?_⟩
    cases hd : decN (nums s) with
    | none => rw [hd] at h; cases h
    | some o => rw [hd] at h; injection h with h; rw [h]
theorem decR_ge {s : List UInt8} {a : Int} (h : decR s = .inr a) : 0 ≤ a := by
  unfold decR at h
  cases hf : firstBad s with
  | some q => rw [hf] at h; injection h with h; omega
  | none =>
    rw [hf] at h
    cases hd : decN (nums s) with
    | some o => rw [hd] at h; cases h
    | none =>
      rw [hd] at h
      injection h with h
      have : s.length ≠ 0 := by
        intro e
        have : s = [] := List.length_eq_zero_iff.1 e
        subst this
        cases hd
      unfold decEnd at h
      split at h <;> omega
theorem dec_any (s : List UInt8) (w0 : World) (h : PH) (hs : s.length ≤ 4000000) : PCalls Tryz.prog w0 28 [str s] h (DecIs s h) := by
  unfold DecIs decR
  cases hf : firstBad s with
  | some q =>
    obtain ⟨h1, h2, h3⟩ := firstBad_some hf
    exact dec_bad1 s q h1 w0 h hs h3 h2
  | none =>
    have hg := firstBad_none hf
    cases hd : decN (nums s) with
    | some out => exact dec_good s out w0 h hs hg hd
    | none => exact dec_bad2 s w0 h hs hg hd
end Go.Proofs.YtdlaoeepeakpeaaGreat


/- Groups of six bits: plain facts. No condition. -/
namespace Go.Proofs.YtdlaoeepeakpeaaGreat.Tx
set_option linter.unusedVariables false
set_option linter.unusedSimpArgs false
def val (l : List Int) : Int := l.foldl (fun x b => x * 2 + b) 0
theorem val_snoc (l : List Int) (b : Int) : val (l ++ [b]) = val l * 2 + b := by unfold val; rw [List.foldl_append]; rfl
theorem val_bound (l : List Int) : (∀ x ∈ l, 0 ≤ x ∧ x ≤ 1) → l.length ≤ 6 → 0 ≤ val l ∧ val l < 64 := by
  intro h hl
  rcases l with _ | ⟨a, _ | ⟨b, _ | ⟨c, _ | ⟨d, _ | ⟨e, _ | ⟨f, _ | ⟨g, t⟩⟩⟩⟩⟩⟩⟩
  case cons.cons.cons.cons.cons.cons.cons => simp at hl
  all_goals
    simp at h
    simp only [val, List.foldl_cons, List.foldl_nil]
    omega
theorem grp_six : ∀ (l : List Int), l.length = 6 → grp l = [letAt (val l)]
  | [a, b, c, d, e, f], _ => rfl
theorem grp_append : ∀ (n : Nat) (a b : List Int), a.length = 6 * n → grp (a ++ b) = grp a ++ grp b
  | 0, a, b, h => by have : a = [] := List.length_eq_zero_iff.1 (by omega); subst this; rfl
  | n + 1, a, b, h => by
    match a, h with
    | x0 :: x1 :: x2 :: x3 :: x4 :: x5 :: t, h =>
      simp only [List.cons_append, grp]
      rw [grp_append n t b (by simp at h; omega)]
theorem grp_take (l : List Int) (g : Nat) (h : 6 * g + 6 ≤ l.length) : grp (l.take (6 * g + 6)) = grp (l.take (6 * g)) ++ [letAt (val ((l.drop (6 * g)).take 6))] := by
  rw [List.take_add, grp_append g _ _ (by rw [List.length_take]; omega), grp_six ((l.drop (6 * g)).take 6) (by rw [List.length_take, List.length_drop]; omega)]
theorem part_snoc (l : List Int) (q k : Nat) (h : q + k < l.length) : (l.drop q).take (k + 1) = (l.drop q).take k ++ [l.getD (q + k) 0] := by
  rw [List.take_add_one, List.getElem?_drop, List.getElem?_eq_getElem h]; simp [List.getD, List.getElem?_eq_getElem h]
theorem bits_bits (s : List UInt8) : ∀ x ∈ bitsAll s, 0 ≤ x ∧ x ≤ 1 := by
  intro x hx
  obtain ⟨c, _, hc⟩ := List.mem_flatMap.1 hx
  have hb : ∀ j, 0 ≤ bit c j ∧ bit c j ≤ 1 := fun j => by unfold bit; omega
  simp only [bits8, List.mem_cons, List.not_mem_nil, or_false] at hc
  rcases hc with rfl | rfl | rfl | rfl | rfl | rfl | rfl | rfl <;> exact hb _
theorem padded_bits (s : List UInt8) : ∀ x ∈ padded (bitsAll s), 0 ≤ x ∧ x ≤ 1 := by
  intro x hx
  rcases List.mem_append.1 hx with h | h
  · exact bits_bits s x h
  · rw [List.eq_of_mem_replicate h]; omega
theorem padded_length (l : List Int) : (padded l).length % 6 = 0 := by unfold padded; simp; omega
theorem padded_le (l : List Int) : (padded l).length ≤ l.length + 5 := by unfold padded; simp; omega
theorem padded_at (l : List Int) (j : Nat) (h : (l.length + j) % 6 = 0) (hj : j < 6) : padded l = l ++ List.replicate j 0 := by
  unfold padded; rw [show (6 - l.length % 6) % 6 = j by omega]
end Go.Proofs.YtdlaoeepeakpeaaGreat.Tx


/- Walks of strings.Cut at a full stop, of fail.Both, and of errors.Is at a pair whose first error is the one. -/
namespace Go.Proofs.YtdlaoeepeakpeaaGreat
set_option linter.unusedVariables false
set_option linter.unusedSimpArgs false
open Go.RowKit Px Go.Extern.Stop Go.Stop Go.Extern
/-- A text cut at its first full stop. -/
def cut1 : List UInt8 → Option (List UInt8 × List UInt8)
  | [] => none
  | c :: t => if c = 46 then some ([], t) else (cut1 t).map fun p => (c :: p.1, p.2)
theorem cut1_some : ∀ {s a b : List UInt8}, cut1 s = some (a, b) → s = a ++ 46 :: b ∧ ∀ c ∈ a, c ≠ 46
  | [], a, b, h => by cases h
  | c :: t, a, b, h => by
    unfold cut1 at h
    by_cases hc : c = 46
    · rw [if_pos hc] at h
      cases h
      exact ⟨by rw [hc]; rfl, by simp⟩
    · rw [if_neg hc] at h
      obtain ⟨⟨a', b'⟩, h1, h2⟩ := Option.map_eq_some_iff.1 h
      injection h2 with h2 h3
      subst h2; subst h3
      obtain ⟨e, hn⟩ := cut1_some h1
      refine ⟨by rw [e]; rfl, fun x hx => ?_⟩
      rcases List.mem_cons.1 hx with rfl | hx
      · exact hc
      · exact hn x hx
theorem cut1_at : ∀ (a b : List UInt8), (∀ c ∈ a, c ≠ 46) → cut1 (a ++ 46 :: b) = some (a, b)
  | [], b, _ => by simp [cut1]
  | c :: a, b, h => by
    have hc : c ≠ 46 := h c (by simp)
    rw [List.cons_append, cut1, if_neg hc, cut1_at a b fun x hx => h x (by simp [hx])]
    rfl
theorem cut1_idx : ∀ (s : List UInt8), Lib.indexByte s 46 = match cut1 s with | some p => (p.1.length : Int) | none => -1
  | [] => rfl
  | c :: t => by
    have ih := cut1_idx t
    unfold Lib.indexByte cut1
    by_cases hc : c = 46
    · simp [hc]
    · rw [if_neg hc, if_neg (by simpa using hc), ih]
      cases cut1 t with
      | none => simp
      | some p =>
        have : ¬ (((p.1.length : Int)) == -1) = true := by simp
        simp [this]
set_option maxRecDepth 20000 in
theorem lindex_dot (s : List UInt8) (w0 : World) (h : PH) : PCalls Tryz.prog w0 72 [str s, str [46]] h fun v h' => v = .int .i64 (Lib.indexByte s 46) ∧ h' = h := by
  refine PCalls_body Tryz.func72 (by kernel_rfl) rfl _ Tryz.ntmps72 (by kernel_rfl) (by kernel_rfl) _ Tryz.results72 ?_
  have hI := Lib.hid (index_lite s 46 w0 h)
  cases e : decide (([46] : List UInt8) = s)
  · simp -dsimp -implicitDefEqProofs (disch := first | omega | assumption | (simp only [Option.isSome_some,Qt0]; done) | (simp only [List.length_cons,List.length_nil,List.length_append,Int.toNat_natCast] <;> omega)) only [Nat.reduceLT,Nat.reduceLeDiff,Nat.reduceEqDiff,↓reduceIte,Int.reduceLT,Int.reduceLE,Int.reduceToNat,Int.reduceEq,Int.reduceNe,Nat.reduceAdd,Int.reduceAdd,Int.reduceSub,Int.reduceMul,Nat.reduceMul,Qp0,Ql0,Qe0,e]
    refine hI.out.mono ?_
    rintro v hq ⟨rfl, hz⟩
    obtain rfl := hz.symm
    simp -dsimp -implicitDefEqProofs (disch := first | omega | assumption | (simp only [Option.isSome_some,Qt0]; done) | (simp only [List.length_cons,List.length_nil,List.length_append,Int.toNat_natCast] <;> omega)) only [Nat.reduceLT,Nat.reduceLeDiff,Nat.reduceEqDiff,↓reduceIte,Int.reduceLT,Int.reduceLE,Int.reduceToNat,Int.reduceEq,Int.reduceNe,Nat.reduceAdd,Int.reduceAdd,Int.reduceSub,Int.reduceMul,Nat.reduceMul,Qp0,Ql0,Qe0]
    exact ⟨_, PH.Le.refl _, by trivial, rfl⟩
  · have hs := of_decide_eq_true e
    subst hs
    have e : decide (([46] : List UInt8) = [46]) = true := rfl
    simp -dsimp -implicitDefEqProofs (disch := first | omega | assumption | (simp only [Option.isSome_some,Qt0]; done) | (simp only [List.length_cons,List.length_nil,List.length_append,Int.toNat_natCast] <;> omega)) only [Nat.reduceLT,Nat.reduceLeDiff,Nat.reduceEqDiff,↓reduceIte,Int.reduceLT,Int.reduceLE,Int.reduceToNat,Int.reduceEq,Int.reduceNe,Nat.reduceAdd,Int.reduceAdd,Int.reduceSub,Int.reduceMul,Nat.reduceMul,Qp0,Ql0,Qe0,e]
    exact ⟨_, PH.Le.refl _, by rfl, rfl⟩
def cutV (s : List UInt8) : Value := match cut1 s with
  | some p => .tuple #[str p.1, str p.2, .bool true]
  | none => .tuple #[str s, str [], .bool false]
set_option maxRecDepth 20000 in
theorem lcut_dot (s : List UInt8) (hs : s.length ≤ 9223372036854775000) (w0 : World) (h : PH) : PCalls Tryz.prog w0 50 [str s, str [46]] h fun v h' => v = cutV s ∧ h' = h := by
  refine PCalls_body Tryz.func50 (by kernel_rfl) rfl _ Tryz.ntmps50 (by kernel_rfl) (by kernel_rfl) _ Tryz.results50 ?_
  have hI := lindex_dot s w0 h
  have hi := cut1_idx s
  unfold cutV
  cases hc : cut1 s with
  | none =>
    rw [hc] at hi
    simp only at hi
    rw [hi] at hI
    have hI := Lib.hid hI
    simp -dsimp -implicitDefEqProofs (disch := first | omega | assumption | (simp only [Option.isSome_some,Qt0]; done) | (simp only [List.length_cons,List.length_nil,List.length_append,Int.toNat_natCast] <;> omega)) only [Nat.reduceLT,Nat.reduceLeDiff,Nat.reduceEqDiff,↓reduceIte,Int.reduceLT,Int.reduceLE,Int.reduceToNat,Int.reduceEq,Int.reduceNe,Nat.reduceAdd,Int.reduceAdd,Int.reduceSub,Int.reduceMul,Nat.reduceMul,Qp0,Ql0,Qe0]
    refine hI.out.mono ?_
    rintro v hq ⟨rfl, hz⟩
    obtain rfl := hz.symm
    simp -dsimp -implicitDefEqProofs (disch := first | omega | assumption | (simp only [Option.isSome_some,Qt0]; done) | (simp only [List.length_cons,List.length_nil,List.length_append,Int.toNat_natCast] <;> omega)) only [Nat.reduceLT,Nat.reduceLeDiff,Nat.reduceEqDiff,↓reduceIte,Int.reduceLT,Int.reduceLE,Int.reduceToNat,Int.reduceEq,Int.reduceNe,Nat.reduceAdd,Int.reduceAdd,Int.reduceSub,Int.reduceMul,Nat.reduceMul,Qp0,Ql0,Qe0]
    exact ⟨_, PH.Le.refl _, by trivial, rfl⟩
  | some p =>
    obtain ⟨a, b⟩ := p
    obtain ⟨hsab, _⟩ := cut1_some hc
    rw [hc] at hi
    simp only at hi
    rw [hi] at hI
    have hI := Lib.hid hI
    have hl : s.length = a.length + b.length + 1 := by rw [hsab]; simp; omega
    have t1 : s.take a.length = a := by rw [hsab]; simp
    have t2 : s.drop (a.length + 1) = b := by rw [hsab]; simp
    have e1 : ((a.length : Int) + 1).toNat = a.length + 1 := by omega
    clear hi hc hsab
    simp -dsimp -implicitDefEqProofs (disch := first | omega | assumption | (simp only [Option.isSome_some,Qt0]; done) | (simp only [List.length_cons,List.length_nil,List.length_append,Int.toNat_natCast] <;> omega)) only [Nat.reduceLT,Nat.reduceLeDiff,Nat.reduceEqDiff,↓reduceIte,Int.reduceLT,Int.reduceLE,Int.reduceToNat,Int.reduceEq,Int.reduceNe,Nat.reduceAdd,Int.reduceAdd,Int.reduceSub,Int.reduceMul,Nat.reduceMul,Qp0,Ql0,Qe0]
    refine hI.out.mono ?_
    rintro v hq ⟨rfl, hz⟩
    obtain rfl := hz.symm
    simp -dsimp -implicitDefEqProofs (disch := first | omega | assumption | (simp only [Option.isSome_some,Qt0]; done) | (simp only [List.length_cons,List.length_nil,List.length_append,Int.toNat_natCast] <;> omega)) only [Nat.reduceLT,Nat.reduceLeDiff,Nat.reduceEqDiff,↓reduceIte,Int.reduceLT,Int.reduceLE,Int.reduceToNat,Int.reduceEq,Int.reduceNe,Nat.reduceAdd,Int.reduceAdd,Int.reduceSub,Int.reduceMul,Nat.reduceMul,Qp0,Ql0,Qe0]
    refine PW_drawn 12 _ (by kernel_rfl) (by kernel_rfl) (by kernel_rfl) (by kernel_rfl) (by kernel_rfl) (fun c f h hq => by simp only [thenC_panic, thenK_panic, inBlk_panic, thenN_panic, vcRet_panic] at hq) (PH.Le.refl _).sub ?_
    simp -dsimp -implicitDefEqProofs (disch := first | omega | assumption | (simp only [Option.isSome_some,Qt0]; done) | (simp only [List.length_cons,List.length_nil,List.length_append,Int.toNat_natCast] <;> omega)) only [Nat.reduceLT,Nat.reduceLeDiff,Nat.reduceEqDiff,↓reduceIte,Int.reduceLT,Int.reduceLE,Int.reduceToNat,Int.reduceEq,Int.reduceNe,Nat.reduceAdd,Int.reduceAdd,Int.reduceSub,Int.reduceMul,Nat.reduceMul,Qp0,Ql0,Qe0,t1,t2,e1]
    exact ⟨_, PH.Le.refl _, by trivial, rfl⟩
set_option maxRecDepth 20000 in
theorem cut_dot (s : List UInt8) (hs : s.length ≤ 9223372036854775000) (w0 : World) (h : PH) : PCalls Tryz.prog w0 27 [str s, str [46]] h fun v h' => v = cutV s ∧ h' = h := by
  refine PCalls_body Tryz.func27 (by kernel_rfl) rfl _ Tryz.ntmps27 (by kernel_rfl) (by kernel_rfl) _ Tryz.results27 ?_
  have hI := lcut_dot s hs w0 h
  unfold cutV at hI ⊢
  cases hc : cut1 s with
  | none =>
    rw [hc] at hI
    have hI := Lib.hid hI
    simp -dsimp -implicitDefEqProofs (disch := first | omega | assumption | (simp only [Option.isSome_some,Qt0]; done) | (simp only [List.length_cons,List.length_nil,List.length_append,Int.toNat_natCast] <;> omega)) only [Nat.reduceLT,Nat.reduceLeDiff,Nat.reduceEqDiff,↓reduceIte,Int.reduceLT,Int.reduceLE,Int.reduceToNat,Int.reduceEq,Int.reduceNe,Nat.reduceAdd,Int.reduceAdd,Int.reduceSub,Int.reduceMul,Nat.reduceMul,Qp0,Ql0,Qe0]
    refine hI.out.mono ?_
    rintro v hq ⟨rfl, hz⟩
    obtain rfl := hz.symm
    simp -dsimp -implicitDefEqProofs (disch := first | omega | assumption | (simp only [Option.isSome_some,Qt0]; done) | (simp only [List.length_cons,List.length_nil,List.length_append,Int.toNat_natCast] <;> omega)) only [Nat.reduceLT,Nat.reduceLeDiff,Nat.reduceEqDiff,↓reduceIte,Int.reduceLT,Int.reduceLE,Int.reduceToNat,Int.reduceEq,Int.reduceNe,Nat.reduceAdd,Int.reduceAdd,Int.reduceSub,Int.reduceMul,Nat.reduceMul,Qp0,Ql0,Qe0]
    exact ⟨_, PH.Le.refl _, by trivial, rfl⟩
  | some p =>
    rw [hc] at hI
    have hI := Lib.hid hI
    simp -dsimp -implicitDefEqProofs (disch := first | omega | assumption | (simp only [Option.isSome_some,Qt0]; done) | (simp only [List.length_cons,List.length_nil,List.length_append,Int.toNat_natCast] <;> omega)) only [Nat.reduceLT,Nat.reduceLeDiff,Nat.reduceEqDiff,↓reduceIte,Int.reduceLT,Int.reduceLE,Int.reduceToNat,Int.reduceEq,Int.reduceNe,Nat.reduceAdd,Int.reduceAdd,Int.reduceSub,Int.reduceMul,Nat.reduceMul,Qp0,Ql0,Qe0]
    refine hI.out.mono ?_
    rintro v hq ⟨rfl, hz⟩
    obtain rfl := hz.symm
    simp -dsimp -implicitDefEqProofs (disch := first | omega | assumption | (simp only [Option.isSome_some,Qt0]; done) | (simp only [List.length_cons,List.length_nil,List.length_append,Int.toNat_natCast] <;> omega)) only [Nat.reduceLT,Nat.reduceLeDiff,Nat.reduceEqDiff,↓reduceIte,Int.reduceLT,Int.reduceLE,Int.reduceToNat,Int.reduceEq,Int.reduceNe,Nat.reduceAdd,Int.reduceAdd,Int.reduceSub,Int.reduceMul,Nat.reduceMul,Qp0,Ql0,Qe0]
    exact ⟨_, PH.Le.refl _, by trivial, rfl⟩
def bothV (x y : Value) : Value := .iface 71 (.agg #[x, y])
set_option maxRecDepth 20000 in
theorem both_nil (y : Value) (w0 : World) (h : PH) : PCalls Tryz.prog w0 14 [.nilIface, y] h fun r h' => r = y ∧ h' = h := by
  refine PCalls_body Tryz.func14 (by kernel_rfl) rfl _ Tryz.ntmps14 (by kernel_rfl) (by kernel_rfl) _ Tryz.results14 ?_
  simp -dsimp -implicitDefEqProofs (disch := first | omega | assumption | (simp only [Option.isSome_some,Qt0]; done) | (simp only [List.length_cons,List.length_nil,List.length_append,Int.toNat_natCast] <;> omega)) only [Nat.reduceLT,Nat.reduceLeDiff,Nat.reduceEqDiff,↓reduceIte,Int.reduceLT,Int.reduceLE,Int.reduceToNat,Int.reduceEq,Int.reduceNe,Nat.reduceAdd,Int.reduceAdd,Int.reduceSub,Int.reduceMul,Nat.reduceMul,Qp0,Ql0,Qe0]
  exact ⟨_, PH.Le.refl _, by trivial, rfl⟩
set_option maxRecDepth 20000 in
theorem both_one (t : TypeId) (x : Value) (w0 : World) (h : PH) : PCalls Tryz.prog w0 14 [.iface t x, .nilIface] h fun r h' => r = .iface t x ∧ h' = h := by
  refine PCalls_body Tryz.func14 (by kernel_rfl) rfl _ Tryz.ntmps14 (by kernel_rfl) (by kernel_rfl) _ Tryz.results14 ?_
  simp -dsimp -implicitDefEqProofs (disch := first | omega | assumption | (simp only [Option.isSome_some,Qt0]; done) | (simp only [List.length_cons,List.length_nil,List.length_append,Int.toNat_natCast] <;> omega)) only [Nat.reduceLT,Nat.reduceLeDiff,Nat.reduceEqDiff,↓reduceIte,Int.reduceLT,Int.reduceLE,Int.reduceToNat,Int.reduceEq,Int.reduceNe,Nat.reduceAdd,Int.reduceAdd,Int.reduceSub,Int.reduceMul,Nat.reduceMul,Qp0,Ql0,Qe0]
  exact ⟨_, PH.Le.refl _, by trivial, rfl⟩
set_option maxRecDepth 20000 in
theorem both_two (t u : TypeId) (x y : Value) (w0 : World) (h : PH) : PCalls Tryz.prog w0 14 [.iface t x, .iface u y] h fun r h' => r = bothV (.iface t x) (.iface u y) ∧ h' = h := by
  refine PCalls_body Tryz.func14 (by kernel_rfl) rfl _ Tryz.ntmps14 (by kernel_rfl) (by kernel_rfl) _ Tryz.results14 ?_
  simp -dsimp -implicitDefEqProofs (disch := first | omega | assumption | (simp only [Option.isSome_some,Qt0]; done) | (simp only [List.length_cons,List.length_nil,List.length_append,Int.toNat_natCast] <;> omega)) only [Nat.reduceLT,Nat.reduceLeDiff,Nat.reduceEqDiff,↓reduceIte,Int.reduceLT,Int.reduceLE,Int.reduceToNat,Int.reduceEq,Int.reduceNe,Nat.reduceAdd,Int.reduceAdd,Int.reduceSub,Int.reduceMul,Nat.reduceMul,Qp0,Ql0,Qe0,(show Tryz.prog.concrete 71 = true by kernel_rfl),bothV]
  exact ⟨_, PH.Le.refl _, by trivial, rfl⟩
theorem noIsB (x y : Value) (xT : TypeId) {K : Value → Prop} : Yld Tryz.prog (Instr.typeAssert (bothV x y) xT 86 true) K = K (.tuple #[.nilIface, .bool false]) := Yld_eq fun w => run_typeAssert_lacksB Tryz.underlying86 (by kernel_rfl) (by kernel_rfl) _ xT w
theorem noUnwrapB (x y : Value) (xT : TypeId) {K : Value → Prop} : Yld Tryz.prog (Instr.typeAssert (bothV x y) xT 89 true) K = K (.tuple #[.nilIface, .bool false]) := Yld_eq fun w => run_typeAssert_lacksB Tryz.underlying89 (by kernel_rfl) (by kernel_rfl) _ xT w
theorem hasUnwrapsB (x y : Value) (xT : TypeId) {K : Value → Prop} : Yld Tryz.prog (Instr.typeAssert (bothV x y) xT 91 true) K = K (.tuple #[bothV x y, .bool true]) := Yld_eq fun w => run_typeAssert_hasB Tryz.underlying91 (by kernel_rfl) _ xT w
theorem eql_both (v : Value) (b : Int) (w : World) : (binOp .eql 25 (.iface 71 v) (codeV b)).run Tryz.prog w = .ok (.bool false) w := by
  unfold codeV
  simp only [binOp]
  simp [Op.equal, Op.maxDepth, run_equalIn_iface_other w 9998 v (.int .i64 b) Tryz.underlying25 (show 71 ≠ 37 by decide)]
theorem y_eqlBC (x y : Tmp) (u v : Value) (c : Int) {K : Value → Prop} : Yld Tryz.prog (binS .eql 25 (.tmp x) (.tmp y) (bothV u v) (codeV c)) K = K (.bool false) := Yld_eq fun w => by
  have := eql_both (.agg #[u, v]) c w
  unfold binS eqGuard bothV codeV at *
  simp [this]
theorem unwraps_method (p : Value) (w : World) : (callMethod (.iface 71 p) "Unwrap" #[]).run Tryz.prog w = (callFunc 106 [p].toArray).run Tryz.prog w := by kernel_rfl
theorem info_err : (Tryz.prog.info? 25).map (fun i => (i.zero, i.size, i.bytes)) = some (some .nilIface, 1, 16) := by kernel_rfl
theorem el_err : El Tryz.prog 92 25 .nilIface 1 16 := ⟨Tryz.underlying92, info_parts info_err, rfl, by decide⟩
set_option maxRecDepth 20000 in
theorem unwraps_any (x y : Value) (hx : One x) (hy : One y) (w0 : World) (h : PH) : PCalls Tryz.prog w0 106 [.agg #[x, y]] h fun r h' => ∃ b, r = .slice (some ⟨b, 0, none⟩) 2 2 ∧ h'.m b = some ⟨[x, y], 2⟩ ∧ PH.Le h h' := by
  refine PCalls_body Tryz.func106 (by kernel_rfl) rfl _ Tryz.ntmps106 (by kernel_rfl) (by kernel_rfl) _ Tryz.results106 ?_
  simp -dsimp -implicitDefEqProofs (disch := first | omega | assumption | (simp only [Option.isSome_some,Qt0]; done) | (simp only [List.length_cons,List.length_nil,List.length_append,Int.toNat_natCast] <;> omega)) only [Nat.reduceLT,Nat.reduceLeDiff,Nat.reduceEqDiff,↓reduceIte,Int.reduceLT,Int.reduceLE,Int.reduceToNat,Int.reduceEq,Int.reduceNe,Nat.reduceAdd,Int.reduceAdd,Int.reduceSub,Int.reduceMul,Nat.reduceMul,Qp0,Ql0,Qe0]
  refine fun pb hpb => ?_
  simp -dsimp -implicitDefEqProofs (disch := first | omega | assumption | (simp only [Option.isSome_some,Qt0]; done) | (simp only [List.length_cons,List.length_nil,List.length_append,Int.toNat_natCast] <;> omega)) only [Nat.reduceLT,Nat.reduceLeDiff,Nat.reduceEqDiff,↓reduceIte,Int.reduceLT,Int.reduceLE,Int.reduceToNat,Int.reduceEq,Int.reduceNe,Nat.reduceAdd,Int.reduceAdd,Int.reduceSub,Int.reduceMul,Nat.reduceMul,Qp0,Ql0,Qe0,rd_M,rdM_some]
  refine Does_seq el_err [x, y] rfl (fun v hv => by simp at hv; rcases hv with rfl | rfl <;> assumption) (by omega) (by omega) fun b hb => ?_
  simp -dsimp -implicitDefEqProofs (disch := first | omega | assumption | (simp only [Option.isSome_some,Qt0]; done) | (simp only [List.length_cons,List.length_nil,List.length_append,Int.toNat_natCast] <;> omega)) only [Nat.reduceLT,Nat.reduceLeDiff,Nat.reduceEqDiff,↓reduceIte,Int.reduceLT,Int.reduceLE,Int.reduceToNat,Int.reduceEq,Int.reduceNe,Nat.reduceAdd,Int.reduceAdd,Int.reduceSub,Int.reduceMul,Nat.reduceMul,Qp0,Ql0,Qe0]
  exact ⟨_, PH.Le.refl _, b, rfl, by rw [PH.new_m, if_pos rfl], ((PH.Le.refl h).new _ _ hpb).trans ((PH.Le.refl _).new _ _ hb)⟩
set_option maxRecDepth 20000 in
/-- errors.is, at an error whose place is told around a pair, the first of which is the code. -/
theorem is_pair' (be : Nat) (s : List UInt8) (a c : Int) (t : TypeId) (x : Value) (w0 : World) (h : PH) (hb : h.m be = some ⟨[str s, .int .i64 a, bothV (codeV c) (.iface t x)], 3⟩) : PCalls Tryz.prog w0 20 [errV be, codeV c, .bool true] h fun r h' => r = .bool true ∧ PH.Le h h' := by
  refine PCalls_body Tryz.func20 (by kernel_rfl) rfl _ Tryz.ntmps20 (by kernel_rfl) (by kernel_rfl) _ Tryz.results20 ?_
  have hun := Lib.hid (@unwrap_any be s a (bothV (codeV c) (.iface t x)) w0 h hb)
  have huns := Lib.hid (@unwraps_any (codeV c) (.iface t x) ⟨rfl, rfl⟩ ⟨rfl, rfl⟩ w0 h)
  simp -dsimp -implicitDefEqProofs (disch := first | omega | assumption | (simp only [Option.isSome_some,Qt0]; done) | (simp only [List.length_cons,List.length_nil,List.length_append,Int.toNat_natCast] <;> omega)) only [Nat.reduceLT,Nat.reduceLeDiff,Nat.reduceEqDiff,↓reduceIte,Int.reduceLT,Int.reduceLE,Int.reduceToNat,Int.reduceEq,Int.reduceNe,Nat.reduceAdd,Int.reduceAdd,Int.reduceSub,Int.reduceMul,Nat.reduceMul,Qp0,Ql0,Qe0]
  refine PW_rounds 2 (by kernel_rfl) ?_
  simp -dsimp -implicitDefEqProofs (disch := first | omega | assumption | (simp only [Option.isSome_some,Qt0]; done) | (simp only [List.length_cons,List.length_nil,List.length_append,Int.toNat_natCast] <;> omega)) only [Nat.reduceLT,Nat.reduceLeDiff,Nat.reduceEqDiff,↓reduceIte,Int.reduceLT,Int.reduceLE,Int.reduceToNat,Int.reduceEq,Int.reduceNe,Nat.reduceAdd,Int.reduceAdd,Int.reduceSub,Int.reduceMul,Nat.reduceMul,Qp0,Ql0,Qe0,y_eqlEC,noIs,hasUnwrap]
  refine ⟨_, _, unwrap_method _, hun.out.mono ?_⟩
  rintro v hz ⟨rfl, rfl⟩
  have hB : bothV (codeV c) (.iface t x) = .iface 71 (.agg #[codeV c, .iface t x]) := rfl
  rw [hB]
  simp -dsimp -implicitDefEqProofs (disch := first | omega | assumption | (simp only [Option.isSome_some,Qt0]; done) | (simp only [List.length_cons,List.length_nil,List.length_append,Int.toNat_natCast] <;> omega)) only [Nat.reduceLT,Nat.reduceLeDiff,Nat.reduceEqDiff,↓reduceIte,Int.reduceLT,Int.reduceLE,Int.reduceToNat,Int.reduceEq,Int.reduceNe,Nat.reduceAdd,Int.reduceAdd,Int.reduceSub,Int.reduceMul,Nat.reduceMul,Qp0,Ql0,Qe0]
  rw [← hB]
  simp -dsimp -implicitDefEqProofs (disch := first | omega | assumption | (simp only [Option.isSome_some,Qt0]; done) | (simp only [List.length_cons,List.length_nil,List.length_append,Int.toNat_natCast] <;> omega)) only [Nat.reduceLT,Nat.reduceLeDiff,Nat.reduceEqDiff,↓reduceIte,Int.reduceLT,Int.reduceLE,Int.reduceToNat,Int.reduceEq,Int.reduceNe,Nat.reduceAdd,Int.reduceAdd,Int.reduceSub,Int.reduceMul,Nat.reduceMul,Qp0,Ql0,Qe0,y_eqlBC,noIsB,noUnwrapB,hasUnwrapsB]
  refine ⟨_, _, unwraps_method _, huns.out.mono ?_⟩
  rintro v h2 ⟨b, rfl, hb2, hl⟩
  have hI := is_any' c w0 h2 (.code c) (codeV c) rfl
  have hcc : ((Er.code c).num == c) = true := by simp [Er.num]
  rw [hcc] at hI
  have hI := Lib.hid hI
  simp -dsimp -implicitDefEqProofs (disch := first | omega | assumption | (simp only [Option.isSome_some,Qt0]; done) | (simp only [List.length_cons,List.length_nil,List.length_append,Int.toNat_natCast] <;> omega)) only [Nat.reduceLT,Nat.reduceLeDiff,Nat.reduceEqDiff,↓reduceIte,Int.reduceLT,Int.reduceLE,Int.reduceToNat,Int.reduceEq,Int.reduceNe,Nat.reduceAdd,Int.reduceAdd,Int.reduceSub,Int.reduceMul,Nat.reduceMul,Qp0,Ql0,Qe0]
  refine PW_rounds 1 (by kernel_rfl) ?_
  simp -dsimp -implicitDefEqProofs (disch := first | omega | assumption | (simp only [Option.isSome_some,Qt0]; done) | (simp only [List.length_cons,List.length_nil,List.length_append,Int.toNat_natCast] <;> omega)) only [Nat.reduceLT,Nat.reduceLeDiff,Nat.reduceEqDiff,↓reduceIte,Int.reduceLT,Int.reduceLE,Int.reduceToNat,Int.reduceEq,Int.reduceNe,Nat.reduceAdd,Int.reduceAdd,Int.reduceSub,Int.reduceMul,Nat.reduceMul,Qp0,Ql0,Qe0,rd_M,rdM_some,hb2]
  refine hI.out.mono ?_
  rintro v h3 ⟨rfl, rfl⟩
  simp -dsimp -implicitDefEqProofs (disch := first | omega | assumption | (simp only [Option.isSome_some,Qt0]; done) | (simp only [List.length_cons,List.length_nil,List.length_append,Int.toNat_natCast] <;> omega)) only [Nat.reduceLT,Nat.reduceLeDiff,Nat.reduceEqDiff,↓reduceIte,Int.reduceLT,Int.reduceLE,Int.reduceToNat,Int.reduceEq,Int.reduceNe,Nat.reduceAdd,Int.reduceAdd,Int.reduceSub,Int.reduceMul,Nat.reduceMul,Qp0,Ql0,Qe0]
  exact ⟨_, PH.Le.refl _, by trivial, hl⟩
set_option maxRecDepth 20000 in
theorem is_pair (be : Nat) (s : List UInt8) (a c : Int) (t : TypeId) (x : Value) (w0 : World) (h : PH) (hb : h.m be = some ⟨[str s, .int .i64 a, bothV (codeV c) (.iface t x)], 3⟩) : PCalls Tryz.prog w0 8 [errV be, codeV c] h fun r h' => r = .bool true ∧ PH.Le h h' := by
  refine PCalls_body Tryz.func8 (by kernel_rfl) rfl _ Tryz.ntmps8 (by kernel_rfl) (by kernel_rfl) _ Tryz.results8 ?_
  have hI := Lib.hid (@is_pair' be s a c t x w0 h hb)
  unfold codeV errV at *
  simp -dsimp -implicitDefEqProofs (disch := first | omega | assumption | (simp only [Option.isSome_some,Qt0]; done) | (simp only [List.length_cons,List.length_nil,List.length_append,Int.toNat_natCast] <;> omega)) only [Nat.reduceLT,Nat.reduceLeDiff,Nat.reduceEqDiff,↓reduceIte,Int.reduceLT,Int.reduceLE,Int.reduceToNat,Int.reduceEq,Int.reduceNe,Nat.reduceAdd,Int.reduceAdd,Int.reduceSub,Int.reduceMul,Nat.reduceMul,Qp0,Ql0,Qe0]
  refine (typeof_any c w0 h).mono ?_
  rintro v hz hv
  obtain ⟨rfl, rfl⟩ := hv
  simp -dsimp -implicitDefEqProofs (disch := first | omega | assumption | (simp only [Option.isSome_some,Qt0]; done) | (simp only [List.length_cons,List.length_nil,List.length_append,Int.toNat_natCast] <;> omega)) only [Nat.reduceLT,Nat.reduceLeDiff,Nat.reduceEqDiff,↓reduceIte,Int.reduceLT,Int.reduceLE,Int.reduceToNat,Int.reduceEq,Int.reduceNe,Nat.reduceAdd,Int.reduceAdd,Int.reduceSub,Int.reduceMul,Nat.reduceMul,Qp0,Ql0,Qe0]
  refine ⟨_, _, comp_method, (comp_any w0 _).mono ?_⟩
  rintro v hy hv
  obtain ⟨rfl, rfl⟩ := hv
  simp -dsimp -implicitDefEqProofs (disch := first | omega | assumption | (simp only [Option.isSome_some,Qt0]; done) | (simp only [List.length_cons,List.length_nil,List.length_append,Int.toNat_natCast] <;> omega)) only [Nat.reduceLT,Nat.reduceLeDiff,Nat.reduceEqDiff,↓reduceIte,Int.reduceLT,Int.reduceLE,Int.reduceToNat,Int.reduceEq,Int.reduceNe,Nat.reduceAdd,Int.reduceAdd,Int.reduceSub,Int.reduceMul,Nat.reduceMul,Qp0,Ql0,Qe0]
  refine hI.out.mono ?_
  rintro v hx ⟨rfl, hl⟩
  simp -dsimp -implicitDefEqProofs (disch := first | omega | assumption | (simp only [Option.isSome_some,Qt0]; done) | (simp only [List.length_cons,List.length_nil,List.length_append,Int.toNat_natCast] <;> omega)) only [Nat.reduceLT,Nat.reduceLeDiff,Nat.reduceEqDiff,↓reduceIte,Int.reduceLT,Int.reduceLE,Int.reduceToNat,Int.reduceEq,Int.reduceNe,Nat.reduceAdd,Int.reduceAdd,Int.reduceSub,Int.reduceMul,Nat.reduceMul,Qp0,Ql0,Qe0]
  exact ⟨_, PH.Le.refl _, by trivial, hl⟩
end Go.Proofs.YtdlaoeepeakpeaaGreat


/- Tokens as plain functions: what is a token of which claims. No condition. -/
namespace Go.Proofs.YtdlaoeepeakpeaaGreat
set_option linter.unusedVariables false
set_option linter.unusedSimpArgs false
open Go.RowKit Px Wr
def tokenT : List UInt8 := [116, 111, 107, 101, 110]
/-- The token of claims, by the keys of their numbers. -/
def tok (key : Int → List UInt8) (c : Cl) : List UInt8 := Tx.enc (bytesC c) ++ 46 :: Tx.enc (tag (key c.k) (bytesC c))
/-- s is the token of claims c, whose number is alive. -/
def IsT (al : Int → Prop) (key : Int → List UInt8) (s : List UInt8) (c : Cl) : Prop := rightC c = true ∧ al c.k ∧ s = tok key c
theorem idx_dot : Tx.idx 46 = -1 := by decide +kernel
theorem enc_nodot (s : List UInt8) : ∀ c ∈ Tx.enc s, c ≠ 46 := fun c hc e => by
  have := Tx.idx_enc s c hc
  rw [e, idx_dot] at this
  omega
theorem cut_tok (key : Int → List UInt8) (c : Cl) : cut1 (tok key c) = some (Tx.enc (bytesC c), Tx.enc (tag (key c.k) (bytesC c))) := cut1_at _ _ (enc_nodot _)
theorem firstBad_of : ∀ {s : List UInt8}, (∀ c ∈ s, 0 ≤ Tx.idx c) → firstBad s = none
  | [], _ => rfl
  | a :: t, h => by
    have ha := h a (by simp)
    unfold firstBad
    rw [if_neg (by omega), firstBad_of fun c hc => h c (by simp [hc])]
    rfl
theorem decR_enc (x : List UInt8) : decR (Tx.enc x) = .inl x := by
  unfold decR
  rw [firstBad_of (Tx.idx_enc x), Tx.dec_enc]
theorem enc_decR {s x : List UInt8} (h : decR s = .inl x) : Tx.enc x = s := Tx.enc_dec s x (decR_in h).1 (decR_in h).2
theorem enc_inj {x y : List UInt8} (h : Tx.enc x = Tx.enc y) : x = y := by
  have h1 := decR_enc x
  rw [h, decR_enc y] at h1
  injection h1 with h1
  exact h1.symm
/-- What is cut, decoded and checked is a token. -/
theorem isT_of {al : Int → Prop} {key : Int → List UInt8} {s a b body tg : List UInt8} {c : Cl} (h1 : cut1 s = some (a, b)) (h2 : decR a = .inl body) (h3 : decR b = .inl tg) (h4 : IsC body c) (h5 : al c.k) (h6 : tg = tag (key c.k) body) : IsT al key s c := by
  obtain ⟨e, _⟩ := cut1_some h1
  obtain ⟨r, rfl⟩ := h4
  refine ⟨r, h5, ?_⟩
  rw [e, ← enc_decR h2, ← enc_decR h3, h6]
  rfl
theorem isT_cut {al : Int → Prop} {key : Int → List UInt8} {s : List UInt8} {c : Cl} (h : IsT al key s c) : cut1 s = some (Tx.enc (bytesC c), Tx.enc (tag (key c.k) (bytesC c))) ∧ decR (Tx.enc (bytesC c)) = .inl (bytesC c) ∧ decR (Tx.enc (tag (key c.k) (bytesC c))) = .inl (tag (key c.k) (bytesC c)) ∧ IsC (bytesC c) c ∧ al c.k := by
  obtain ⟨h1, h2, rfl⟩ := h
  exact ⟨cut_tok key c, decR_enc _, decR_enc _, ⟨h1, rfl⟩, h2⟩
theorem IsC_one' {s : List UInt8} {c d : Cl} (hc : IsC s c) (hd : IsC s d) : c = d := by
  have key : ∀ {e : Cl}, IsC s e → e = _ := fun {e} he => (ChC.fwd (m1 := 64) (m2 := 32) (m3 := 1099511627776) (n := 0) (s := s) ⟨rfl, rfl, rfl, rfl, rfl, rfl⟩ (by omega) (by omega) (by omega) he).1
  rw [key hc, key hd]
theorem bytesC_le {c : Cl} (h : rightC c = true) : (bytesC c).length ≤ 400 := by
  obtain ⟨h1, h2, h3, h4, ⟨h5, h6⟩, ⟨h7, h8⟩, ⟨h9, h10⟩, h11⟩ := rightC_iff.1 h
  have l1 := textB_len h2 (by omega)
  have l2 := textB_len h4 (by omega)
  have l3 := numB_len9 (n := c.e.toNat) (by omega)
  have l4 := numB_len9 (n := c.i.toNat) (by omega)
  have l5 := numB_len9 (n := c.k.toNat) (by omega)
  have l6 := vecB_len h11
  unfold bytesC
  simp only [List.length_append]
  omega
theorem tok_inj {key : Int → List UInt8} {c d : Cl} (hc : rightC c = true) (hd : rightC d = true) (h : tok key c = tok key d) : c = d := by
  have h1 := cut_tok key c
  rw [h, cut_tok key d] at h1
  injection h1 with h1
  injection h1 with h1 _
  have h2 := enc_inj h1
  exact IsC_one' (s := bytesC c) ⟨hc, rfl⟩ ⟨hd, h2.symm⟩
end Go.Proofs.YtdlaoeepeakpeaaGreat

