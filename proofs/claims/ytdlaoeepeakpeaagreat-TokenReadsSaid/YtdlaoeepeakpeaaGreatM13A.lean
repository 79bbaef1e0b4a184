/- Parts TxE, MnQ, Tk3, Tk4, TxRl, joined. No condition. -/
import Derived.Test.YtdlaoeepeakpeaaGreatM3A
import Derived.Test.YtdlaoeepeakpeaaGreatM10A
import Derived.Test.YtdlaoeepeakpeaaGreatM8A
import Derived.Test.YtdlaoeepeakpeaaGreatM12A
import Derived.Test.YtdlaoeepeakpeaaGreatM11A
/- Walk of text.Enc: the letters of a text. -/
namespace Go.Proofs.YtdlaoeepeakpeaaGreat
set_option linter.unusedVariables false
set_option linter.unusedSimpArgs false
open Go.RowKit Px Tx
theorem info_u8t : (Tryz.prog.info? 5).map (fun i => (i.zero, i.size, i.bytes)) = some (some (.int .u8 0), 1, 1) := by kernel_rfl
theorem el_u8t : El Tryz.prog 74 5 (.int .u8 0) 1 1 := ⟨Tryz.underlying74, info_parts info_u8t, rfl, by decide⟩
set_option maxRecDepth 20000 in
set_option maxHeartbeats 1000000 in
theorem enc_any (s : List UInt8) (w0 : World) (h : PH) (hs : s.length ≤ 4000000) :
    PCalls Tryz.prog w0 25 [str s] h fun v h' => v = str (enc s) ∧ h' = h := by
  refine PCalls_body Tryz.func25 (by kernel_rfl) rfl _ Tryz.ntmps25 (by kernel_rfl) (by kernel_rfl) _ Tryz.results25 ?_
  simp -dsimp -implicitDefEqProofs (disch := first | omega | assumption | (simp only [Option.isSome_some,Qt0]; done) | (simp only [UInt64.reduceToNat,UInt32.reduceToNat,UInt8.reduceToNat,List.length_cons,List.length_nil,List.length_append,Int.toNat_natCast] <;> omega)) only [Nat.reduceLT,Nat.reduceLeDiff,Nat.reduceEqDiff,↓reduceIte,Int.reduceLT,Int.reduceLE,Int.reduceToNat,Int.reduceEq,Int.reduceNe,Nat.reduceAdd,UInt8.reduceOfNat,UInt16.reduceOfNat,UInt32.reduceOfNat,UInt64.reduceOfNat,UInt64.reduceToNat,UInt32.reduceToNat,UInt16.reduceToNat,UInt8.reduceToNat,Int.reduceAdd,Int.reduceSub,Int.reduceMul,Nat.reduceMul,Qp0,Ql0,Qe0]
  refine PW_loop (fun n f h' => ∃ (r d : List UInt8) (v : Value), r.length = n ∧ n ≤ s.length ∧ f 0 = some (str r) ∧ f 3 = some v ∧ OwnS h h' 1 v d.length (bs d) ∧ d ++ enc r = enc s) (by kernel_rfl) s.length ⟨s, [], .slice none 0 0, rfl, by omega, ?_, ?_, OwnS.nil h 1, rfl⟩ ?_
  · simp -dsimp -implicitDefEqProofs (disch := first | omega | assumption | (simp only [Option.isSome_some,Qt0]; done) | (simp only [UInt64.reduceToNat,UInt32.reduceToNat,UInt8.reduceToNat,List.length_cons,List.length_nil,List.length_append,Int.toNat_natCast] <;> omega)) only [Nat.reduceLT,Nat.reduceLeDiff,Nat.reduceEqDiff,↓reduceIte,Int.reduceLT,Int.reduceLE,Int.reduceToNat,Int.reduceEq,Int.reduceNe,Nat.reduceAdd,UInt8.reduceOfNat,UInt16.reduceOfNat,UInt32.reduceOfNat,UInt64.reduceOfNat,UInt64.reduceToNat,UInt32.reduceToNat,UInt16.reduceToNat,UInt8.reduceToNat,Int.reduceAdd,Int.reduceSub,Int.reduceMul,Nat.reduceMul,Qp0,Ql0,Qe0]
  · simp -dsimp -implicitDefEqProofs (disch := first | omega | assumption | (simp only [Option.isSome_some,Qt0]; done) | (simp only [UInt64.reduceToNat,UInt32.reduceToNat,UInt8.reduceToNat,List.length_cons,List.length_nil,List.length_append,Int.toNat_natCast] <;> omega)) only [Nat.reduceLT,Nat.reduceLeDiff,Nat.reduceEqDiff,↓reduceIte,Int.reduceLT,Int.reduceLE,Int.reduceToNat,Int.reduceEq,Int.reduceNe,Nat.reduceAdd,UInt8.reduceOfNat,UInt16.reduceOfNat,UInt32.reduceOfNat,UInt64.reduceOfNat,UInt64.reduceToNat,UInt32.reduceToNat,UInt16.reduceToNat,UInt8.reduceToNat,Int.reduceAdd,Int.reduceSub,Int.reduceMul,Nat.reduceMul,Qp0,Ql0,Qe0]
  · rintro n f h' ⟨r, d, v, rfl, hn, h0, h3, how, henc⟩
    have hel := enc_length s
    have hdl : d.length ≤ 2 * s.length + 4 := by rw [← henc, List.length_append] at hel; omega
    rcases r with _ | ⟨a, r⟩
    · obtain ⟨A, c, rfl, hc⟩ := how.own.len
      simp -dsimp -implicitDefEqProofs (disch := first | omega | assumption | (simp only [Option.isSome_some,Qt0]; done) | (simp only [UInt64.reduceToNat,UInt32.reduceToNat,UInt8.reduceToNat,List.length_cons,List.length_nil,List.length_append,Int.toNat_natCast] <;> omega)) only [Nat.reduceLT,Nat.reduceLeDiff,Nat.reduceEqDiff,↓reduceIte,Int.reduceLT,Int.reduceLE,Int.reduceToNat,Int.reduceEq,Int.reduceNe,Nat.reduceAdd,UInt8.reduceOfNat,UInt16.reduceOfNat,UInt32.reduceOfNat,UInt64.reduceOfNat,UInt64.reduceToNat,UInt32.reduceToNat,UInt16.reduceToNat,UInt8.reduceToNat,Int.reduceAdd,Int.reduceSub,Int.reduceMul,Nat.reduceMul,Qp0,Ql0,Qe0,h0,h3]
      refine vtext_own Tryz.underlying74 Tryz.underlying5 Tryz.underlying9 (Rs.own how.own) ?_ ?_
      · rintro rfl; rcases how.own.2 with ⟨_, h1⟩ | ⟨b, c', h1, _⟩
        · exact h1
        · cases h1
      · simp -dsimp -implicitDefEqProofs (disch := first | omega | assumption | (simp only [Option.isSome_some,Qt0]; done) | (simp only [UInt64.reduceToNat,UInt32.reduceToNat,UInt8.reduceToNat,List.length_cons,List.length_nil,List.length_append,Int.toNat_natCast] <;> omega)) only [Nat.reduceLT,Nat.reduceLeDiff,Nat.reduceEqDiff,↓reduceIte,Int.reduceLT,Int.reduceLE,Int.reduceToNat,Int.reduceEq,Int.reduceNe,Nat.reduceAdd,UInt8.reduceOfNat,UInt16.reduceOfNat,UInt32.reduceOfNat,UInt64.reduceOfNat,UInt64.reduceToNat,UInt32.reduceToNat,UInt16.reduceToNat,UInt8.reduceToNat,Int.reduceAdd,Int.reduceSub,Int.reduceMul,Nat.reduceMul,Qp0,Ql0,Qe0]
        have : d = enc s := by rw [← henc]; simp [enc]
        exact ⟨_, how.le, by rw [this], rfl⟩
    · --cases
      rcases r with _ | ⟨b, r⟩
      · simp -dsimp -implicitDefEqProofs (disch := first | omega | assumption | (simp only [Option.isSome_some,Qt0]; done) | (simp only [UInt64.reduceToNat,UInt32.reduceToNat,UInt8.reduceToNat,List.length_cons,List.length_nil,List.length_append,Int.toNat_natCast] <;> omega)) only [Nat.reduceLT,Nat.reduceLeDiff,Nat.reduceEqDiff,↓reduceIte,Int.reduceLT,Int.reduceLE,Int.reduceToNat,Int.reduceEq,Int.reduceNe,Nat.reduceAdd,UInt8.reduceOfNat,UInt16.reduceOfNat,UInt32.reduceOfNat,UInt64.reduceOfNat,UInt64.reduceToNat,UInt32.reduceToNat,UInt16.reduceToNat,UInt8.reduceToNat,Int.reduceAdd,Int.reduceSub,Int.reduceMul,Nat.reduceMul,Qp0,Ql0,Qe0,h0,h3]
        refine PW_rounds 4 (by kernel_rfl) ?_
        simp -dsimp -implicitDefEqProofs (disch := first | omega | assumption | (simp only [Option.isSome_some,Qt0]; done) | (simp only [UInt64.reduceToNat,UInt32.reduceToNat,UInt8.reduceToNat,List.length_cons,List.length_nil,List.length_append,Int.toNat_natCast] <;> omega)) only [Nat.reduceLT,Nat.reduceLeDiff,Nat.reduceEqDiff,↓reduceIte,Int.reduceLT,Int.reduceLE,Int.reduceToNat,Int.reduceEq,Int.reduceNe,Nat.reduceAdd,UInt8.reduceOfNat,UInt16.reduceOfNat,UInt32.reduceOfNat,UInt64.reduceOfNat,UInt64.reduceToNat,UInt32.reduceToNat,UInt16.reduceToNat,UInt8.reduceToNat,Int.reduceAdd,Int.reduceSub,Int.reduceMul,Nat.reduceMul,Qp0,Ql0,Qe0,h0,h3]
        refine PW_loop (fun n f h' => ∃ (i : Nat) (v : Value), i + n = 2 ∧ f 0 = some (str [a]) ∧ f 5 = some (.int .i64 1) ∧ f 7 = some (.int .i64 i) ∧ f 4 = some (u32 (sh6 ((((0 : UInt32) <<< 8 ||| a.toUInt32) <<< 8) <<< 8) i)) ∧ f 3 = some v ∧ OwnS h h' 1 v (d.length + i) (bs (d ++ lets ((((0 : UInt32) <<< 8 ||| a.toUInt32) <<< 8) <<< 8) i))) (by kernel_rfl) 2 ⟨0, v, rfl, ?_, ?_, ?_, ?_, ?_, ?_⟩ ?_
        · simp -dsimp -implicitDefEqProofs (disch := first | omega | assumption | (simp only [Option.isSome_some,Qt0]; done) | (simp only [UInt64.reduceToNat,UInt32.reduceToNat,UInt8.reduceToNat,List.length_cons,List.length_nil,List.length_append,Int.toNat_natCast] <;> omega)) only [Nat.reduceLT,Nat.reduceLeDiff,Nat.reduceEqDiff,↓reduceIte,Int.reduceLT,Int.reduceLE,Int.reduceToNat,Int.reduceEq,Int.reduceNe,Nat.reduceAdd,UInt8.reduceOfNat,UInt16.reduceOfNat,UInt32.reduceOfNat,UInt64.reduceOfNat,UInt64.reduceToNat,UInt32.reduceToNat,UInt16.reduceToNat,UInt8.reduceToNat,Int.reduceAdd,Int.reduceSub,Int.reduceMul,Nat.reduceMul,Qp0,Ql0,Qe0,h0]
        · simp -dsimp -implicitDefEqProofs (disch := first | omega | assumption | (simp only [Option.isSome_some,Qt0]; done) | (simp only [UInt64.reduceToNat,UInt32.reduceToNat,UInt8.reduceToNat,List.length_cons,List.length_nil,List.length_append,Int.toNat_natCast] <;> omega)) only [Nat.reduceLT,Nat.reduceLeDiff,Nat.reduceEqDiff,↓reduceIte,Int.reduceLT,Int.reduceLE,Int.reduceToNat,Int.reduceEq,Int.reduceNe,Nat.reduceAdd,UInt8.reduceOfNat,UInt16.reduceOfNat,UInt32.reduceOfNat,UInt64.reduceOfNat,UInt64.reduceToNat,UInt32.reduceToNat,UInt16.reduceToNat,UInt8.reduceToNat,Int.reduceAdd,Int.reduceSub,Int.reduceMul,Nat.reduceMul,Qp0,Ql0,Qe0]
        · simp -dsimp -implicitDefEqProofs (disch := first | omega | assumption | (simp only [Option.isSome_some,Qt0]; done) | (simp only [UInt64.reduceToNat,UInt32.reduceToNat,UInt8.reduceToNat,List.length_cons,List.length_nil,List.length_append,Int.toNat_natCast] <;> omega)) only [Nat.reduceLT,Nat.reduceLeDiff,Nat.reduceEqDiff,↓reduceIte,Int.reduceLT,Int.reduceLE,Int.reduceToNat,Int.reduceEq,Int.reduceNe,Nat.reduceAdd,UInt8.reduceOfNat,UInt16.reduceOfNat,UInt32.reduceOfNat,UInt64.reduceOfNat,UInt64.reduceToNat,UInt32.reduceToNat,UInt16.reduceToNat,UInt8.reduceToNat,Int.reduceAdd,Int.reduceSub,Int.reduceMul,Nat.reduceMul,Qp0,Ql0,Qe0]
        · simp -dsimp -implicitDefEqProofs (disch := first | omega | assumption | (simp only [Option.isSome_some,Qt0]; done) | (simp only [UInt64.reduceToNat,UInt32.reduceToNat,UInt8.reduceToNat,List.length_cons,List.length_nil,List.length_append,Int.toNat_natCast] <;> omega)) only [Nat.reduceLT,Nat.reduceLeDiff,Nat.reduceEqDiff,↓reduceIte,Int.reduceLT,Int.reduceLE,Int.reduceToNat,Int.reduceEq,Int.reduceNe,Nat.reduceAdd,UInt8.reduceOfNat,UInt16.reduceOfNat,UInt32.reduceOfNat,UInt64.reduceOfNat,UInt64.reduceToNat,UInt32.reduceToNat,UInt16.reduceToNat,UInt8.reduceToNat,Int.reduceAdd,Int.reduceSub,Int.reduceMul,Nat.reduceMul,Qp0,Ql0,Qe0]; rfl
        · simp -dsimp -implicitDefEqProofs (disch := first | omega | assumption | (simp only [Option.isSome_some,Qt0]; done) | (simp only [UInt64.reduceToNat,UInt32.reduceToNat,UInt8.reduceToNat,List.length_cons,List.length_nil,List.length_append,Int.toNat_natCast] <;> omega)) only [Nat.reduceLT,Nat.reduceLeDiff,Nat.reduceEqDiff,↓reduceIte,Int.reduceLT,Int.reduceLE,Int.reduceToNat,Int.reduceEq,Int.reduceNe,Nat.reduceAdd,UInt8.reduceOfNat,UInt16.reduceOfNat,UInt32.reduceOfNat,UInt64.reduceOfNat,UInt64.reduceToNat,UInt32.reduceToNat,UInt16.reduceToNat,UInt8.reduceToNat,Int.reduceAdd,Int.reduceSub,Int.reduceMul,Nat.reduceMul,Qp0,Ql0,Qe0,h3]
        · simpa [lets] using how
        rintro n f' h'' ⟨i, u, hin, g0, g5, g7, g4, g3, hou⟩
        by_cases hi : i < 2
        · have hlt : (UInt32.toNat (sh6 ((((0 : UInt32) <<< 8 ||| a.toUInt32) <<< 8) <<< 8) i >>> UInt32.ofNat 18 &&& 63)) < letters.length := and63 _
          simp only [UInt32.reduceOfNat] at hlt
          unfold letters at hlt
          simp -dsimp -implicitDefEqProofs (disch := first | omega | assumption | (simp only [Option.isSome_some,Qt0]; done) | (simp only [UInt64.reduceToNat,UInt32.reduceToNat,UInt8.reduceToNat,List.length_cons,List.length_nil,List.length_append,Int.toNat_natCast] <;> omega)) only [Nat.reduceLT,Nat.reduceLeDiff,Nat.reduceEqDiff,↓reduceIte,Int.reduceLT,Int.reduceLE,Int.reduceToNat,Int.reduceEq,Int.reduceNe,Nat.reduceAdd,UInt8.reduceOfNat,UInt16.reduceOfNat,UInt32.reduceOfNat,UInt64.reduceOfNat,UInt64.reduceToNat,UInt32.reduceToNat,UInt16.reduceToNat,UInt8.reduceToNat,Int.reduceAdd,Int.reduceSub,Int.reduceMul,Nat.reduceMul,Qp0,Ql0,Qe0,g0,g5,g7,g4,g3]
          refine Does_one (v := u8 _) el_u8t rfl (by omega) (fun gb hgb => ?_)
          simp -dsimp -implicitDefEqProofs (disch := first | omega | assumption | (simp only [Option.isSome_some,Qt0]; done) | (simp only [UInt64.reduceToNat,UInt32.reduceToNat,UInt8.reduceToNat,List.length_cons,List.length_nil,List.length_append,Int.toNat_natCast] <;> omega)) only [Nat.reduceLT,Nat.reduceLeDiff,Nat.reduceEqDiff,↓reduceIte,Int.reduceLT,Int.reduceLE,Int.reduceToNat,Int.reduceEq,Int.reduceNe,Nat.reduceAdd,UInt8.reduceOfNat,UInt16.reduceOfNat,UInt32.reduceOfNat,UInt64.reduceOfNat,UInt64.reduceToNat,UInt32.reduceToNat,UInt16.reduceToNat,UInt8.reduceToNat,Int.reduceAdd,Int.reduceSub,Int.reduceMul,Nat.reduceMul,Qp0,Ql0,Qe0,g0,g5,g7,g4,g3]
          refine Does_app el_u8t (hou.more ((PH.Le.refl _).new _ _ hgb)).own (Rs.blk (k := ⟨[u8 (let64 (sh6 ((((0 : UInt32) <<< 8 ||| a.toUInt32) <<< 8) <<< 8) i))], 1⟩) (by rw [PH.new_m, if_pos rfl]; rfl) rfl) (bs_one [let64 (sh6 ((((0 : UInt32) <<< 8 ||| a.toUInt32) <<< 8) <<< 8) i)]) (by unfold maxLen; omega) (by omega) (fun v' h3' ho hst => ?_)
          have hou' := (hou.more ((PH.Le.refl _).new _ _ hgb)).stays hst ho
          simp -dsimp -implicitDefEqProofs (disch := first | omega | assumption | (simp only [Option.isSome_some,Qt0]; done) | (simp only [UInt64.reduceToNat,UInt32.reduceToNat,UInt8.reduceToNat,List.length_cons,List.length_nil,List.length_append,Int.toNat_natCast] <;> omega)) only [Nat.reduceLT,Nat.reduceLeDiff,Nat.reduceEqDiff,↓reduceIte,Int.reduceLT,Int.reduceLE,Int.reduceToNat,Int.reduceEq,Int.reduceNe,Nat.reduceAdd,UInt8.reduceOfNat,UInt16.reduceOfNat,UInt32.reduceOfNat,UInt64.reduceOfNat,UInt64.reduceToNat,UInt32.reduceToNat,UInt16.reduceToNat,UInt8.reduceToNat,Int.reduceAdd,Int.reduceSub,Int.reduceMul,Nat.reduceMul,Qp0,Ql0,Qe0,g0,g5,g7,g4,g3]
          refine ⟨n - 1, h3', by omega, PH.Le.refl _, i + 1, v', by omega, ?_, ?_, ?_, ?_, ?_, ?_⟩
          · first | rfl | (simp -dsimp -implicitDefEqProofs (disch := first | omega | assumption | (simp only [Option.isSome_some,Qt0]; done) | (simp only [UInt64.reduceToNat,UInt32.reduceToNat,UInt8.reduceToNat,List.length_cons,List.length_nil,List.length_append,Int.toNat_natCast] <;> omega)) only [Nat.reduceLT,Nat.reduceLeDiff,Nat.reduceEqDiff,↓reduceIte,Int.reduceLT,Int.reduceLE,Int.reduceToNat,Int.reduceEq,Int.reduceNe,Nat.reduceAdd,UInt8.reduceOfNat,UInt16.reduceOfNat,UInt32.reduceOfNat,UInt64.reduceOfNat,UInt64.reduceToNat,UInt32.reduceToNat,UInt16.reduceToNat,UInt8.reduceToNat,Int.reduceAdd,Int.reduceSub,Int.reduceMul,Nat.reduceMul,Qp0,Ql0,Qe0,g0]; done)
          · first | rfl | (simp -dsimp -implicitDefEqProofs (disch := first | omega | assumption | (simp only [Option.isSome_some,Qt0]; done) | (simp only [UInt64.reduceToNat,UInt32.reduceToNat,UInt8.reduceToNat,List.length_cons,List.length_nil,List.length_append,Int.toNat_natCast] <;> omega)) only [Nat.reduceLT,Nat.reduceLeDiff,Nat.reduceEqDiff,↓reduceIte,Int.reduceLT,Int.reduceLE,Int.reduceToNat,Int.reduceEq,Int.reduceNe,Nat.reduceAdd,UInt8.reduceOfNat,UInt16.reduceOfNat,UInt32.reduceOfNat,UInt64.reduceOfNat,UInt64.reduceToNat,UInt32.reduceToNat,UInt16.reduceToNat,UInt8.reduceToNat,Int.reduceAdd,Int.reduceSub,Int.reduceMul,Nat.reduceMul,Qp0,Ql0,Qe0,g5]; done)
          · first | rfl | (simp -dsimp -implicitDefEqProofs (disch := first | omega | assumption | (simp only [Option.isSome_some,Qt0]; done) | (simp only [UInt64.reduceToNat,UInt32.reduceToNat,UInt8.reduceToNat,List.length_cons,List.length_nil,List.length_append,Int.toNat_natCast] <;> omega)) only [Nat.reduceLT,Nat.reduceLeDiff,Nat.reduceEqDiff,↓reduceIte,Int.reduceLT,Int.reduceLE,Int.reduceToNat,Int.reduceEq,Int.reduceNe,Nat.reduceAdd,UInt8.reduceOfNat,UInt16.reduceOfNat,UInt32.reduceOfNat,UInt64.reduceOfNat,UInt64.reduceToNat,UInt32.reduceToNat,UInt16.reduceToNat,UInt8.reduceToNat,Int.reduceAdd,Int.reduceSub,Int.reduceMul,Nat.reduceMul,Qp0,Ql0,Qe0,g7]; first | done | rfl)
          · first | rfl | (simp -dsimp -implicitDefEqProofs (disch := first | omega | assumption | (simp only [Option.isSome_some,Qt0]; done) | (simp only [UInt64.reduceToNat,UInt32.reduceToNat,UInt8.reduceToNat,List.length_cons,List.length_nil,List.length_append,Int.toNat_natCast] <;> omega)) only [Nat.reduceLT,Nat.reduceLeDiff,Nat.reduceEqDiff,↓reduceIte,Int.reduceLT,Int.reduceLE,Int.reduceToNat,Int.reduceEq,Int.reduceNe,Nat.reduceAdd,UInt8.reduceOfNat,UInt16.reduceOfNat,UInt32.reduceOfNat,UInt64.reduceOfNat,UInt64.reduceToNat,UInt32.reduceToNat,UInt16.reduceToNat,UInt8.reduceToNat,Int.reduceAdd,Int.reduceSub,Int.reduceMul,Nat.reduceMul,Qp0,Ql0,Qe0]; first | done | rfl)
          · first | rfl | (simp -dsimp -implicitDefEqProofs (disch := first | omega | assumption | (simp only [Option.isSome_some,Qt0]; done) | (simp only [UInt64.reduceToNat,UInt32.reduceToNat,UInt8.reduceToNat,List.length_cons,List.length_nil,List.length_append,Int.toNat_natCast] <;> omega)) only [Nat.reduceLT,Nat.reduceLeDiff,Nat.reduceEqDiff,↓reduceIte,Int.reduceLT,Int.reduceLE,Int.reduceToNat,Int.reduceEq,Int.reduceNe,Nat.reduceAdd,UInt8.reduceOfNat,UInt16.reduceOfNat,UInt32.reduceOfNat,UInt64.reduceOfNat,UInt64.reduceToNat,UInt32.reduceToNat,UInt16.reduceToNat,UInt8.reduceToNat,Int.reduceAdd,Int.reduceSub,Int.reduceMul,Nat.reduceMul,Qp0,Ql0,Qe0]; done)
          · have e : bs (d ++ lets ((((0 : UInt32) <<< 8 ||| a.toUInt32) <<< 8) <<< 8) i) ++ [u8 (let64 (sh6 ((((0 : UInt32) <<< 8 ||| a.toUInt32) <<< 8) <<< 8) i))] = bs (d ++ lets ((((0 : UInt32) <<< 8 ||| a.toUInt32) <<< 8) <<< 8) (i + 1)) := by simp [bs, lets]
            rw [← e]; exact hou'
        · obtain rfl : i = 2 := by omega
          simp -dsimp -implicitDefEqProofs (disch := first | omega | assumption | (simp only [Option.isSome_some,Qt0]; done) | (simp only [UInt64.reduceToNat,UInt32.reduceToNat,UInt8.reduceToNat,List.length_cons,List.length_nil,List.length_append,Int.toNat_natCast] <;> omega)) only [Nat.reduceLT,Nat.reduceLeDiff,Nat.reduceEqDiff,↓reduceIte,Int.reduceLT,Int.reduceLE,Int.reduceToNat,Int.reduceEq,Int.reduceNe,Nat.reduceAdd,UInt8.reduceOfNat,UInt16.reduceOfNat,UInt32.reduceOfNat,UInt64.reduceOfNat,UInt64.reduceToNat,UInt32.reduceToNat,UInt16.reduceToNat,UInt8.reduceToNat,Int.reduceAdd,Int.reduceSub,Int.reduceMul,Nat.reduceMul,Qp0,Ql0,Qe0,g0,g5,g7,g4,g3]
          refine ⟨([] : List UInt8).length, h'', by first | omega | (simp; done) | (simp; omega), PH.Le.refl _, ([] : List UInt8), d ++ lets ((((0 : UInt32) <<< 8 ||| a.toUInt32) <<< 8) <<< 8) 2, u, rfl, by simp at hn ⊢ <;> omega, ?_, ?_, ?_, ?_⟩
          · first | rfl | (simp; done) | (trace_state; fail)
          · first | rfl | (simp -dsimp -implicitDefEqProofs (disch := first | omega | assumption | (simp only [Option.isSome_some,Qt0]; done) | (simp only [UInt64.reduceToNat,UInt32.reduceToNat,UInt8.reduceToNat,List.length_cons,List.length_nil,List.length_append,Int.toNat_natCast] <;> omega)) only [Nat.reduceLT,Nat.reduceLeDiff,Nat.reduceEqDiff,↓reduceIte,Int.reduceLT,Int.reduceLE,Int.reduceToNat,Int.reduceEq,Int.reduceNe,Nat.reduceAdd,UInt8.reduceOfNat,UInt16.reduceOfNat,UInt32.reduceOfNat,UInt64.reduceOfNat,UInt64.reduceToNat,UInt32.reduceToNat,UInt16.reduceToNat,UInt8.reduceToNat,Int.reduceAdd,Int.reduceSub,Int.reduceMul,Nat.reduceMul,Qp0,Ql0,Qe0,g3]; done)
          · simpa [lets_length] using hou
          · rw [← henc]; simp [enc, num3]
      rcases r with _ | ⟨c, r⟩
      · simp -dsimp -implicitDefEqProofs (disch := first | omega | assumption | (simp only [Option.isSome_some,Qt0]; done) | (simp only [UInt64.reduceToNat,UInt32.reduceToNat,UInt8.reduceToNat,List.length_cons,List.length_nil,List.length_append,Int.toNat_natCast] <;> omega)) only [Nat.reduceLT,Nat.reduceLeDiff,Nat.reduceEqDiff,↓reduceIte,Int.reduceLT,Int.reduceLE,Int.reduceToNat,Int.reduceEq,Int.reduceNe,Nat.reduceAdd,UInt8.reduceOfNat,UInt16.reduceOfNat,UInt32.reduceOfNat,UInt64.reduceOfNat,UInt64.reduceToNat,UInt32.reduceToNat,UInt16.reduceToNat,UInt8.reduceToNat,Int.reduceAdd,Int.reduceSub,Int.reduceMul,Nat.reduceMul,Qp0,Ql0,Qe0,h0,h3]
        refine PW_rounds 4 (by kernel_rfl) ?_
        simp -dsimp -implicitDefEqProofs (disch := first | omega | assumption | (simp only [Option.isSome_some,Qt0]; done) | (simp only [UInt64.reduceToNat,UInt32.reduceToNat,UInt8.reduceToNat,List.length_cons,List.length_nil,List.length_append,Int.toNat_natCast] <;> omega)) only [Nat.reduceLT,Nat.reduceLeDiff,Nat.reduceEqDiff,↓reduceIte,Int.reduceLT,Int.reduceLE,Int.reduceToNat,Int.reduceEq,Int.reduceNe,Nat.reduceAdd,UInt8.reduceOfNat,UInt16.reduceOfNat,UInt32.reduceOfNat,UInt64.reduceOfNat,UInt64.reduceToNat,UInt32.reduceToNat,UInt16.reduceToNat,UInt8.reduceToNat,Int.reduceAdd,Int.reduceSub,Int.reduceMul,Nat.reduceMul,Qp0,Ql0,Qe0,h0,h3]
        refine PW_loop (fun n f h' => ∃ (i : Nat) (v : Value), i + n = 3 ∧ f 0 = some (str [a, b]) ∧ f 5 = some (.int .i64 2) ∧ f 7 = some (.int .i64 i) ∧ f 4 = some (u32 (sh6 (((((0 : UInt32) <<< 8 ||| a.toUInt32) <<< 8) ||| b.toUInt32) <<< 8) i)) ∧ f 3 = some v ∧ OwnS h h' 1 v (d.length + i) (bs (d ++ lets (((((0 : UInt32) <<< 8 ||| a.toUInt32) <<< 8) ||| b.toUInt32) <<< 8) i))) (by kernel_rfl) 3 ⟨0, v, rfl, ?_, ?_, ?_, ?_, ?_, ?_⟩ ?_
        · simp -dsimp -implicitDefEqProofs (disch := first | omega | assumption | (simp only [Option.isSome_some,Qt0]; done) | (simp only [UInt64.reduceToNat,UInt32.reduceToNat,UInt8.reduceToNat,List.length_cons,List.length_nil,List.length_append,Int.toNat_natCast] <;> omega)) only [Nat.reduceLT,Nat.reduceLeDiff,Nat.reduceEqDiff,↓reduceIte,Int.reduceLT,Int.reduceLE,Int.reduceToNat,Int.reduceEq,Int.reduceNe,Nat.reduceAdd,UInt8.reduceOfNat,UInt16.reduceOfNat,UInt32.reduceOfNat,UInt64.reduceOfNat,UInt64.reduceToNat,UInt32.reduceToNat,UInt16.reduceToNat,UInt8.reduceToNat,Int.reduceAdd,Int.reduceSub,Int.reduceMul,Nat.reduceMul,Qp0,Ql0,Qe0,h0]
        · simp -dsimp -implicitDefEqProofs (disch := first | omega | assumption | (simp only [Option.isSome_some,Qt0]; done) | (simp only [UInt64.reduceToNat,UInt32.reduceToNat,UInt8.reduceToNat,List.length_cons,List.length_nil,List.length_append,Int.toNat_natCast] <;> omega)) only [Nat.reduceLT,Nat.reduceLeDiff,Nat.reduceEqDiff,↓reduceIte,Int.reduceLT,Int.reduceLE,Int.reduceToNat,Int.reduceEq,Int.reduceNe,Nat.reduceAdd,UInt8.reduceOfNat,UInt16.reduceOfNat,UInt32.reduceOfNat,UInt64.reduceOfNat,UInt64.reduceToNat,UInt32.reduceToNat,UInt16.reduceToNat,UInt8.reduceToNat,Int.reduceAdd,Int.reduceSub,Int.reduceMul,Nat.reduceMul,Qp0,Ql0,Qe0]
        · simp -dsimp -implicitDefEqProofs (disch := first | omega | assumption | (simp only [Option.isSome_some,Qt0]; done) | (simp only [UInt64.reduceToNat,UInt32.reduceToNat,UInt8.reduceToNat,List.length_cons,List.length_nil,List.length_append,Int.toNat_natCast] <;> omega)) only [Nat.reduceLT,Nat.reduceLeDiff,Nat.reduceEqDiff,↓reduceIte,Int.reduceLT,Int.reduceLE,Int.reduceToNat,Int.reduceEq,Int.reduceNe,Nat.reduceAdd,UInt8.reduceOfNat,UInt16.reduceOfNat,UInt32.reduceOfNat,UInt64.reduceOfNat,UInt64.reduceToNat,UInt32.reduceToNat,UInt16.reduceToNat,UInt8.reduceToNat,Int.reduceAdd,Int.reduceSub,Int.reduceMul,Nat.reduceMul,Qp0,Ql0,Qe0]
        · simp -dsimp -implicitDefEqProofs (disch := first | omega | assumption | (simp only [Option.isSome_some,Qt0]; done) | (simp only [UInt64.reduceToNat,UInt32.reduceToNat,UInt8.reduceToNat,List.length_cons,List.length_nil,List.length_append,Int.toNat_natCast] <;> omega)) only [Nat.reduceLT,Nat.reduceLeDiff,Nat.reduceEqDiff,↓reduceIte,Int.reduceLT,Int.reduceLE,Int.reduceToNat,Int.reduceEq,Int.reduceNe,Nat.reduceAdd,UInt8.reduceOfNat,UInt16.reduceOfNat,UInt32.reduceOfNat,UInt64.reduceOfNat,UInt64.reduceToNat,UInt32.reduceToNat,UInt16.reduceToNat,UInt8.reduceToNat,Int.reduceAdd,Int.reduceSub,Int.reduceMul,Nat.reduceMul,Qp0,Ql0,Qe0]; rfl
        · simp -dsimp -implicitDefEqProofs (disch := first | omega | assumption | (simp only [Option.isSome_some,Qt0]; done) | (simp only [UInt64.reduceToNat,UInt32.reduceToNat,UInt8.reduceToNat,List.length_cons,List.length_nil,List.length_append,Int.toNat_natCast] <;> omega)) only [Nat.reduceLT,Nat.reduceLeDiff,Nat.reduceEqDiff,↓reduceIte,Int.reduceLT,Int.reduceLE,Int.reduceToNat,Int.reduceEq,Int.reduceNe,Nat.reduceAdd,UInt8.reduceOfNat,UInt16.reduceOfNat,UInt32.reduceOfNat,UInt64.reduceOfNat,UInt64.reduceToNat,UInt32.reduceToNat,UInt16.reduceToNat,UInt8.reduceToNat,Int.reduceAdd,Int.reduceSub,Int.reduceMul,Nat.reduceMul,Qp0,Ql0,Qe0,h3]
        · simpa [lets] using how
        rintro n f' h'' ⟨i, u, hin, g0, g5, g7, g4, g3, hou⟩
        by_cases hi : i < 3
        · have hlt : (UInt32.toNat (sh6 (((((0 : UInt32) <<< 8 ||| a.toUInt32) <<< 8) ||| b.toUInt32) <<< 8) i >>> UInt32.ofNat 18 &&& 63)) < letters.length := and63 _
          simp only [UInt32.reduceOfNat] at hlt
          unfold letters at hlt
          simp -dsimp -implicitDefEqProofs (disch := first | omega | assumption | (simp only [Option.isSome_some,Qt0]; done) | (simp only [UInt64.reduceToNat,UInt32.reduceToNat,UInt8.reduceToNat,List.length_cons,List.length_nil,List.length_append,Int.toNat_natCast] <;> omega)) only [Nat.reduceLT,Nat.reduceLeDiff,Nat.reduceEqDiff,↓reduceIte,Int.reduceLT,Int.reduceLE,Int.reduceToNat,Int.reduceEq,Int.reduceNe,Nat.reduceAdd,UInt8.reduceOfNat,UInt16.reduceOfNat,UInt32.reduceOfNat,UInt64.reduceOfNat,UInt64.reduceToNat,UInt32.reduceToNat,UInt16.reduceToNat,UInt8.reduceToNat,Int.reduceAdd,Int.reduceSub,Int.reduceMul,Nat.reduceMul,Qp0,Ql0,Qe0,g0,g5,g7,g4,g3]
          refine Does_one (v := u8 _) el_u8t rfl (by omega) (fun gb hgb => ?_)
          simp -dsimp -implicitDefEqProofs (disch := first | omega | assumption | (simp only [Option.isSome_some,Qt0]; done) | (simp only [UInt64.reduceToNat,UInt32.reduceToNat,UInt8.reduceToNat,List.length_cons,List.length_nil,List.length_append,Int.toNat_natCast] <;> omega)) only [Nat.reduceLT,Nat.reduceLeDiff,Nat.reduceEqDiff,↓reduceIte,Int.reduceLT,Int.reduceLE,Int.reduceToNat,Int.reduceEq,Int.reduceNe,Nat.reduceAdd,UInt8.reduceOfNat,UInt16.reduceOfNat,UInt32.reduceOfNat,UInt64.reduceOfNat,UInt64.reduceToNat,UInt32.reduceToNat,UInt16.reduceToNat,UInt8.reduceToNat,Int.reduceAdd,Int.reduceSub,Int.reduceMul,Nat.reduceMul,Qp0,Ql0,Qe0,g0,g5,g7,g4,g3]
          refine Does_app el_u8t (hou.more ((PH.Le.refl _).new _ _ hgb)).own (Rs.blk (k := ⟨[u8 (let64 (sh6 (((((0 : UInt32) <<< 8 ||| a.toUInt32) <<< 8) ||| b.toUInt32) <<< 8) i))], 1⟩) (by rw [PH.new_m, if_pos rfl]; rfl) rfl) (bs_one [let64 (sh6 (((((0 : UInt32) <<< 8 ||| a.toUInt32) <<< 8) ||| b.toUInt32) <<< 8) i)]) (by unfold maxLen; omega) (by omega) (fun v' h3' ho hst => ?_)
          have hou' := (hou.more ((PH.Le.refl _).new _ _ hgb)).stays hst ho
          simp -dsimp -implicitDefEqProofs (disch := first | omega | assumption | (simp only [Option.isSome_some,Qt0]; done) | (simp only [UInt64.reduceToNat,UInt32.reduceToNat,UInt8.reduceToNat,List.length_cons,List.length_nil,List.length_append,Int.toNat_natCast] <;> omega)) only [Nat.reduceLT,Nat.reduceLeDiff,Nat.reduceEqDiff,↓reduceIte,Int.reduceLT,Int.reduceLE,Int.reduceToNat,Int.reduceEq,Int.reduceNe,Nat.reduceAdd,UInt8.reduceOfNat,UInt16.reduceOfNat,UInt32.reduceOfNat,UInt64.reduceOfNat,UInt64.reduceToNat,UInt32.reduceToNat,UInt16.reduceToNat,UInt8.reduceToNat,Int.reduceAdd,Int.reduceSub,Int.reduceMul,Nat.reduceMul,Qp0,Ql0,Qe0,g0,g5,g7,g4,g3]
          refine ⟨n - 1, h3', by omega, PH.Le.refl _, i + 1, v', by omega, ?_, ?_, ?_, ?_, ?_, ?_⟩
          · first | rfl | (simp -dsimp -implicitDefEqProofs (disch := first | omega | assumption | (simp only [Option.isSome_some,Qt0]; done) | (simp only [UInt64.reduceToNat,UInt32.reduceToNat,UInt8.reduceToNat,List.length_cons,List.length_nil,List.length_append,Int.toNat_natCast] <;> omega)) only [Nat.reduceLT,Nat.reduceLeDiff,Nat.reduceEqDiff,↓reduceIte,Int.reduceLT,Int.reduceLE,Int.reduceToNat,Int.reduceEq,Int.reduceNe,Nat.reduceAdd,UInt8.reduceOfNat,UInt16.reduceOfNat,UInt32.reduceOfNat,UInt64.reduceOfNat,UInt64.reduceToNat,UInt32.reduceToNat,UInt16.reduceToNat,UInt8.reduceToNat,Int.reduceAdd,Int.reduceSub,Int.reduceMul,Nat.reduceMul,Qp0,Ql0,Qe0,g0]; done)
          · first | rfl | (simp -dsimp -implicitDefEqProofs (disch := first | omega | assumption | (simp only [Option.isSome_some,Qt0]; done) | (simp only [UInt64.reduceToNat,UInt32.reduceToNat,UInt8.reduceToNat,List.length_cons,List.length_nil,List.length_append,Int.toNat_natCast] <;> omega)) only [Nat.reduceLT,Nat.reduceLeDiff,Nat.reduceEqDiff,↓reduceIte,Int.reduceLT,Int.reduceLE,Int.reduceToNat,Int.reduceEq,Int.reduceNe,Nat.reduceAdd,UInt8.reduceOfNat,UInt16.reduceOfNat,UInt32.reduceOfNat,UInt64.reduceOfNat,UInt64.reduceToNat,UInt32.reduceToNat,UInt16.reduceToNat,UInt8.reduceToNat,Int.reduceAdd,Int.reduceSub,Int.reduceMul,Nat.reduceMul,Qp0,Ql0,Qe0,g5]; done)
          · first | rfl | (simp -dsimp -implicitDefEqProofs (disch := first | omega | assumption | (simp only [Option.isSome_some,Qt0]; done) | (simp only [UInt64.reduceToNat,UInt32.reduceToNat,UInt8.reduceToNat,List.length_cons,List.length_nil,List.length_append,Int.toNat_natCast] <;> omega)) only [Nat.reduceLT,Nat.reduceLeDiff,Nat.reduceEqDiff,↓reduceIte,Int.reduceLT,Int.reduceLE,Int.reduceToNat,Int.reduceEq,Int.reduceNe,Nat.reduceAdd,UInt8.reduceOfNat,UInt16.reduceOfNat,UInt32.reduceOfNat,UInt64.reduceOfNat,UInt64.reduceToNat,UInt32.reduceToNat,UInt16.reduceToNat,UInt8.reduceToNat,Int.reduceAdd,Int.reduceSub,Int.reduceMul,Nat.reduceMul,Qp0,Ql0,Qe0,g7]; first | done | rfl)
          · first | rfl | (simp -dsimp -implicitDefEqProofs (disch := first | omega | assumption | (simp only [Option.isSome_some,Qt0]; done) | (simp only [UInt64.reduceToNat,UInt32.reduceToNat,UInt8.reduceToNat,List.length_cons,List.length_nil,List.length_append,Int.toNat_natCast] <;> omega)) only [Nat.reduceLT,Nat.reduceLeDiff,Nat.reduceEqDiff,↓reduceIte,Int.reduceLT,Int.reduceLE,Int.reduceToNat,Int.reduceEq,Int.reduceNe,Nat.reduceAdd,UInt8.reduceOfNat,UInt16.reduceOfNat,UInt32.reduceOfNat,UInt64.reduceOfNat,UInt64.reduceToNat,UInt32.reduceToNat,UInt16.reduceToNat,UInt8.reduceToNat,Int.reduceAdd,Int.reduceSub,Int.reduceMul,Nat.reduceMul,Qp0,Ql0,Qe0]; first | done | rfl)
          · first | rfl | (simp -dsimp -implicitDefEqProofs (disch := first | omega | assumption | (simp only [Option.isSome_some,Qt0]; done) | (simp only [UInt64.reduceToNat,UInt32.reduceToNat,UInt8.reduceToNat,List.length_cons,List.length_nil,List.length_append,Int.toNat_natCast] <;> omega)) only [Nat.reduceLT,Nat.reduceLeDiff,Nat.reduceEqDiff,↓reduceIte,Int.reduceLT,Int.reduceLE,Int.reduceToNat,Int.reduceEq,Int.reduceNe,Nat.reduceAdd,UInt8.reduceOfNat,UInt16.reduceOfNat,UInt32.reduceOfNat,UInt64.reduceOfNat,UInt64.reduceToNat,UInt32.reduceToNat,UInt16.reduceToNat,UInt8.reduceToNat,Int.reduceAdd,Int.reduceSub,Int.reduceMul,Nat.reduceMul,Qp0,Ql0,Qe0]; done)
          · have e : bs (d ++ lets (((((0 : UInt32) <<< 8 ||| a.toUInt32) <<< 8) ||| b.toUInt32) <<< 8) i) ++ [u8 (let64 (sh6 (((((0 : UInt32) <<< 8 ||| a.toUInt32) <<< 8) ||| b.toUInt32) <<< 8) i))] = bs (d ++ lets (((((0 : UInt32) <<< 8 ||| a.toUInt32) <<< 8) ||| b.toUInt32) <<< 8) (i + 1)) := by simp [bs, lets]
            rw [← e]; exact hou'
        · obtain rfl : i = 3 := by omega
          simp -dsimp -implicitDefEqProofs (disch := first | omega | assumption | (simp only [Option.isSome_some,Qt0]; done) | (simp only [UInt64.reduceToNat,UInt32.reduceToNat,UInt8.reduceToNat,List.length_cons,List.length_nil,List.length_append,Int.toNat_natCast] <;> omega)) only [Nat.reduceLT,Nat.reduceLeDiff,Nat.reduceEqDiff,↓reduceIte,Int.reduceLT,Int.reduceLE,Int.reduceToNat,Int.reduceEq,Int.reduceNe,Nat.reduceAdd,UInt8.reduceOfNat,UInt16.reduceOfNat,UInt32.reduceOfNat,UInt64.reduceOfNat,UInt64.reduceToNat,UInt32.reduceToNat,UInt16.reduceToNat,UInt8.reduceToNat,Int.reduceAdd,Int.reduceSub,Int.reduceMul,Nat.reduceMul,Qp0,Ql0,Qe0,g0,g5,g7,g4,g3]
          refine ⟨([] : List UInt8).length, h'', by first | omega | (simp; done) | (simp; omega), PH.Le.refl _, ([] : List UInt8), d ++ lets (((((0 : UInt32) <<< 8 ||| a.toUInt32) <<< 8) ||| b.toUInt32) <<< 8) 3, u, rfl, by simp at hn ⊢ <;> omega, ?_, ?_, ?_, ?_⟩
          · first | rfl | (simp; done) | (trace_state; fail)
          · first | rfl | (simp -dsimp -implicitDefEqProofs (disch := first | omega | assumption | (simp only [Option.isSome_some,Qt0]; done) | (simp only [UInt64.reduceToNat,UInt32.reduceToNat,UInt8.reduceToNat,List.length_cons,List.length_nil,List.length_append,Int.toNat_natCast] <;> omega)) only [Nat.reduceLT,Nat.reduceLeDiff,Nat.reduceEqDiff,↓reduceIte,Int.reduceLT,Int.reduceLE,Int.reduceToNat,Int.reduceEq,Int.reduceNe,Nat.reduceAdd,UInt8.reduceOfNat,UInt16.reduceOfNat,UInt32.reduceOfNat,UInt64.reduceOfNat,UInt64.reduceToNat,UInt32.reduceToNat,UInt16.reduceToNat,UInt8.reduceToNat,Int.reduceAdd,Int.reduceSub,Int.reduceMul,Nat.reduceMul,Qp0,Ql0,Qe0,g3]; done)
          · simpa [lets_length] using hou
          · rw [← henc]; simp [enc, num3]
      · have hmin : (if (3:Int) < (r.length:Int) + 1 + 1 + 1 then (3:Int) else (r.length:Int) + 1 + 1 + 1) = 3 := by split <;> omega
        simp -dsimp -implicitDefEqProofs (disch := first | omega | assumption | (simp only [Option.isSome_some,Qt0]; done) | (simp only [UInt64.reduceToNat,UInt32.reduceToNat,UInt8.reduceToNat,List.length_cons,List.length_nil,List.length_append,Int.toNat_natCast] <;> omega)) only [Nat.reduceLT,Nat.reduceLeDiff,Nat.reduceEqDiff,↓reduceIte,Int.reduceLT,Int.reduceLE,Int.reduceToNat,Int.reduceEq,Int.reduceNe,Nat.reduceAdd,UInt8.reduceOfNat,UInt16.reduceOfNat,UInt32.reduceOfNat,UInt64.reduceOfNat,UInt64.reduceToNat,UInt32.reduceToNat,UInt16.reduceToNat,UInt8.reduceToNat,Int.reduceAdd,Int.reduceSub,Int.reduceMul,Nat.reduceMul,Qp0,Ql0,Qe0,h0,h3,hmin]
        refine PW_rounds 4 (by kernel_rfl) ?_
        simp -dsimp -implicitDefEqProofs (disch := first | omega | assumption | (simp only [Option.isSome_some,Qt0]; done) | (simp only [UInt64.reduceToNat,UInt32.reduceToNat,UInt8.reduceToNat,List.length_cons,List.length_nil,List.length_append,Int.toNat_natCast] <;> omega)) only [Nat.reduceLT,Nat.reduceLeDiff,Nat.reduceEqDiff,↓reduceIte,Int.reduceLT,Int.reduceLE,Int.reduceToNat,Int.reduceEq,Int.reduceNe,Nat.reduceAdd,UInt8.reduceOfNat,UInt16.reduceOfNat,UInt32.reduceOfNat,UInt64.reduceOfNat,UInt64.reduceToNat,UInt32.reduceToNat,UInt16.reduceToNat,UInt8.reduceToNat,Int.reduceAdd,Int.reduceSub,Int.reduceMul,Nat.reduceMul,Qp0,Ql0,Qe0,h0,h3,hmin]
        refine PW_loop (fun n f h' => ∃ (i : Nat) (v : Value), i + n = 4 ∧ f 0 = some (str (a :: b :: c :: r)) ∧ f 5 = some (.int .i64 3) ∧ f 7 = some (.int .i64 i) ∧ f 4 = some (u32 (sh6 ((((((0 : UInt32) <<< 8 ||| a.toUInt32) <<< 8) ||| b.toUInt32) <<< 8) ||| c.toUInt32) i)) ∧ f 3 = some v ∧ OwnS h h' 1 v (d.length + i) (bs (d ++ lets ((((((0 : UInt32) <<< 8 ||| a.toUInt32) <<< 8) ||| b.toUInt32) <<< 8) ||| c.toUInt32) i))) (by kernel_rfl) 4 ⟨0, v, rfl, ?_, ?_, ?_, ?_, ?_, ?_⟩ ?_
        · simp -dsimp -implicitDefEqProofs (disch := first | omega | assumption | (simp only [Option.isSome_some,Qt0]; done) | (simp only [UInt64.reduceToNat,UInt32.reduceToNat,UInt8.reduceToNat,List.length_cons,List.length_nil,List.length_append,Int.toNat_natCast] <;> omega)) only [Nat.reduceLT,Nat.reduceLeDiff,Nat.reduceEqDiff,↓reduceIte,Int.reduceLT,Int.reduceLE,Int.reduceToNat,Int.reduceEq,Int.reduceNe,Nat.reduceAdd,UInt8.reduceOfNat,UInt16.reduceOfNat,UInt32.reduceOfNat,UInt64.reduceOfNat,UInt64.reduceToNat,UInt32.reduceToNat,UInt16.reduceToNat,UInt8.reduceToNat,Int.reduceAdd,Int.reduceSub,Int.reduceMul,Nat.reduceMul,Qp0,Ql0,Qe0,h0]
        · simp -dsimp -implicitDefEqProofs (disch := first | omega | assumption | (simp only [Option.isSome_some,Qt0]; done) | (simp only [UInt64.reduceToNat,UInt32.reduceToNat,UInt8.reduceToNat,List.length_cons,List.length_nil,List.length_append,Int.toNat_natCast] <;> omega)) only [Nat.reduceLT,Nat.reduceLeDiff,Nat.reduceEqDiff,↓reduceIte,Int.reduceLT,Int.reduceLE,Int.reduceToNat,Int.reduceEq,Int.reduceNe,Nat.reduceAdd,UInt8.reduceOfNat,UInt16.reduceOfNat,UInt32.reduceOfNat,UInt64.reduceOfNat,UInt64.reduceToNat,UInt32.reduceToNat,UInt16.reduceToNat,UInt8.reduceToNat,Int.reduceAdd,Int.reduceSub,Int.reduceMul,Nat.reduceMul,Qp0,Ql0,Qe0]
        · simp -dsimp -implicitDefEqProofs (disch := first | omega | assumption | (simp only [Option.isSome_some,Qt0]; done) | (simp only [UInt64.reduceToNat,UInt32.reduceToNat,UInt8.reduceToNat,List.length_cons,List.length_nil,List.length_append,Int.toNat_natCast] <;> omega)) only [Nat.reduceLT,Nat.reduceLeDiff,Nat.reduceEqDiff,↓reduceIte,Int.reduceLT,Int.reduceLE,Int.reduceToNat,Int.reduceEq,Int.reduceNe,Nat.reduceAdd,UInt8.reduceOfNat,UInt16.reduceOfNat,UInt32.reduceOfNat,UInt64.reduceOfNat,UInt64.reduceToNat,UInt32.reduceToNat,UInt16.reduceToNat,UInt8.reduceToNat,Int.reduceAdd,Int.reduceSub,Int.reduceMul,Nat.reduceMul,Qp0,Ql0,Qe0]
        · simp -dsimp -implicitDefEqProofs (disch := first | omega | assumption | (simp only [Option.isSome_some,Qt0]; done) | (simp only [UInt64.reduceToNat,UInt32.reduceToNat,UInt8.reduceToNat,List.length_cons,List.length_nil,List.length_append,Int.toNat_natCast] <;> omega)) only [Nat.reduceLT,Nat.reduceLeDiff,Nat.reduceEqDiff,↓reduceIte,Int.reduceLT,Int.reduceLE,Int.reduceToNat,Int.reduceEq,Int.reduceNe,Nat.reduceAdd,UInt8.reduceOfNat,UInt16.reduceOfNat,UInt32.reduceOfNat,UInt64.reduceOfNat,UInt64.reduceToNat,UInt32.reduceToNat,UInt16.reduceToNat,UInt8.reduceToNat,Int.reduceAdd,Int.reduceSub,Int.reduceMul,Nat.reduceMul,Qp0,Ql0,Qe0]; rfl
        · simp -dsimp -implicitDefEqProofs (disch := first | omega | assumption | (simp only [Option.isSome_some,Qt0]; done) | (simp only [UInt64.reduceToNat,UInt32.reduceToNat,UInt8.reduceToNat,List.length_cons,List.length_nil,List.length_append,Int.toNat_natCast] <;> omega)) only [Nat.reduceLT,Nat.reduceLeDiff,Nat.reduceEqDiff,↓reduceIte,Int.reduceLT,Int.reduceLE,Int.reduceToNat,Int.reduceEq,Int.reduceNe,Nat.reduceAdd,UInt8.reduceOfNat,UInt16.reduceOfNat,UInt32.reduceOfNat,UInt64.reduceOfNat,UInt64.reduceToNat,UInt32.reduceToNat,UInt16.reduceToNat,UInt8.reduceToNat,Int.reduceAdd,Int.reduceSub,Int.reduceMul,Nat.reduceMul,Qp0,Ql0,Qe0,h3]
        · simpa [lets] using how
        rintro n f' h'' ⟨i, u, hin, g0, g5, g7, g4, g3, hou⟩
        by_cases hi : i < 4
        · have hlt : (UInt32.toNat (sh6 ((((((0 : UInt32) <<< 8 ||| a.toUInt32) <<< 8) ||| b.toUInt32) <<< 8) ||| c.toUInt32) i >>> UInt32.ofNat 18 &&& 63)) < letters.length := and63 _
          simp only [UInt32.reduceOfNat] at hlt
          unfold letters at hlt
          simp -dsimp -implicitDefEqProofs (disch := first | omega | assumption | (simp only [Option.isSome_some,Qt0]; done) | (simp only [UInt64.reduceToNat,UInt32.reduceToNat,UInt8.reduceToNat,List.length_cons,List.length_nil,List.length_append,Int.toNat_natCast] <;> omega)) only [Nat.reduceLT,Nat.reduceLeDiff,Nat.reduceEqDiff,↓reduceIte,Int.reduceLT,Int.reduceLE,Int.reduceToNat,Int.reduceEq,Int.reduceNe,Nat.reduceAdd,UInt8.reduceOfNat,UInt16.reduceOfNat,UInt32.reduceOfNat,UInt64.reduceOfNat,UInt64.reduceToNat,UInt32.reduceToNat,UInt16.reduceToNat,UInt8.reduceToNat,Int.reduceAdd,Int.reduceSub,Int.reduceMul,Nat.reduceMul,Qp0,Ql0,Qe0,g0,g5,g7,g4,g3]
          refine Does_one (v := u8 _) el_u8t rfl (by omega) (fun gb hgb => ?_)
          simp -dsimp -implicitDefEqProofs (disch := first | omega | assumption | (simp only [Option.isSome_some,Qt0]; done) | (simp only [UInt64.reduceToNat,UInt32.reduceToNat,UInt8.reduceToNat,List.length_cons,List.length_nil,List.length_append,Int.toNat_natCast] <;> omega)) only [Nat.reduceLT,Nat.reduceLeDiff,Nat.reduceEqDiff,↓reduceIte,Int.reduceLT,Int.reduceLE,Int.reduceToNat,Int.reduceEq,Int.reduceNe,Nat.reduceAdd,UInt8.reduceOfNat,UInt16.reduceOfNat,UInt32.reduceOfNat,UInt64.reduceOfNat,UInt64.reduceToNat,UInt32.reduceToNat,UInt16.reduceToNat,UInt8.reduceToNat,Int.reduceAdd,Int.reduceSub,Int.reduceMul,Nat.reduceMul,Qp0,Ql0,Qe0,g0,g5,g7,g4,g3]
          refine Does_app el_u8t (hou.more ((PH.Le.refl _).new _ _ hgb)).own (Rs.blk (k := ⟨[u8 (let64 (sh6 ((((((0 : UInt32) <<< 8 ||| a.toUInt32) <<< 8) ||| b.toUInt32) <<< 8) ||| c.toUInt32) i))], 1⟩) (by rw [PH.new_m, if_pos rfl]; rfl) rfl) (bs_one [let64 (sh6 ((((((0 : UInt32) <<< 8 ||| a.toUInt32) <<< 8) ||| b.toUInt32) <<< 8) ||| c.toUInt32) i)]) (by unfold maxLen; omega) (by omega) (fun v' h3' ho hst => ?_)
          have hou' := (hou.more ((PH.Le.refl _).new _ _ hgb)).stays hst ho
          simp -dsimp -implicitDefEqProofs (disch := first | omega | assumption | (simp only [Option.isSome_some,Qt0]; done) | (simp only [UInt64.reduceToNat,UInt32.reduceToNat,UInt8.reduceToNat,List.length_cons,List.length_nil,List.length_append,Int.toNat_natCast] <;> omega)) only [Nat.reduceLT,Nat.reduceLeDiff,Nat.reduceEqDiff,↓reduceIte,Int.reduceLT,Int.reduceLE,Int.reduceToNat,Int.reduceEq,Int.reduceNe,Nat.reduceAdd,UInt8.reduceOfNat,UInt16.reduceOfNat,UInt32.reduceOfNat,UInt64.reduceOfNat,UInt64.reduceToNat,UInt32.reduceToNat,UInt16.reduceToNat,UInt8.reduceToNat,Int.reduceAdd,Int.reduceSub,Int.reduceMul,Nat.reduceMul,Qp0,Ql0,Qe0,g0,g5,g7,g4,g3]
          refine ⟨n - 1, h3', by omega, PH.Le.refl _, i + 1, v', by omega, ?_, ?_, ?_, ?_, ?_, ?_⟩
          · first | rfl | (simp -dsimp -implicitDefEqProofs (disch := first | omega | assumption | (simp only [Option.isSome_some,Qt0]; done) | (simp only [UInt64.reduceToNat,UInt32.reduceToNat,UInt8.reduceToNat,List.length_cons,List.length_nil,List.length_append,Int.toNat_natCast] <;> omega)) only [Nat.reduceLT,Nat.reduceLeDiff,Nat.reduceEqDiff,↓reduceIte,Int.reduceLT,Int.reduceLE,Int.reduceToNat,Int.reduceEq,Int.reduceNe,Nat.reduceAdd,UInt8.reduceOfNat,UInt16.reduceOfNat,UInt32.reduceOfNat,UInt64.reduceOfNat,UInt64.reduceToNat,UInt32.reduceToNat,UInt16.reduceToNat,UInt8.reduceToNat,Int.reduceAdd,Int.reduceSub,Int.reduceMul,Nat.reduceMul,Qp0,Ql0,Qe0,g0]; done)
          · first | rfl | (simp -dsimp -implicitDefEqProofs (disch := first | omega | assumption | (simp only [Option.isSome_some,Qt0]; done) | (simp only [UInt64.reduceToNat,UInt32.reduceToNat,UInt8.reduceToNat,List.length_cons,List.length_nil,List.length_append,Int.toNat_natCast] <;> omega)) only [Nat.reduceLT,Nat.reduceLeDiff,Nat.reduceEqDiff,↓reduceIte,Int.reduceLT,Int.reduceLE,Int.reduceToNat,Int.reduceEq,Int.reduceNe,Nat.reduceAdd,UInt8.reduceOfNat,UInt16.reduceOfNat,UInt32.reduceOfNat,UInt64.reduceOfNat,UInt64.reduceToNat,UInt32.reduceToNat,UInt16.reduceToNat,UInt8.reduceToNat,Int.reduceAdd,Int.reduceSub,Int.reduceMul,Nat.reduceMul,Qp0,Ql0,Qe0,g5]; done)
          · first | rfl | (simp -dsimp -implicitDefEqProofs (disch := first | omega | assumption | (simp only [Option.isSome_some,Qt0]; done) | (simp only [UInt64.reduceToNat,UInt32.reduceToNat,UInt8.reduceToNat,List.length_cons,List.length_nil,List.length_append,Int.toNat_natCast] <;> omega)) only [Nat.reduceLT,Nat.reduceLeDiff,Nat.reduceEqDiff,↓reduceIte,Int.reduceLT,Int.reduceLE,Int.reduceToNat,Int.reduceEq,Int.reduceNe,Nat.reduceAdd,UInt8.reduceOfNat,UInt16.reduceOfNat,UInt32.reduceOfNat,UInt64.reduceOfNat,UInt64.reduceToNat,UInt32.reduceToNat,UInt16.reduceToNat,UInt8.reduceToNat,Int.reduceAdd,Int.reduceSub,Int.reduceMul,Nat.reduceMul,Qp0,Ql0,Qe0,g7]; first | done | rfl)
          · first | rfl | (simp -dsimp -implicitDefEqProofs (disch := first | omega | assumption | (simp only [Option.isSome_some,Qt0]; done) | (simp only [UInt64.reduceToNat,UInt32.reduceToNat,UInt8.reduceToNat,List.length_cons,List.length_nil,List.length_append,Int.toNat_natCast] <;> omega)) only [Nat.reduceLT,Nat.reduceLeDiff,Nat.reduceEqDiff,↓reduceIte,Int.reduceLT,Int.reduceLE,Int.reduceToNat,Int.reduceEq,Int.reduceNe,Nat.reduceAdd,UInt8.reduceOfNat,UInt16.reduceOfNat,UInt32.reduceOfNat,UInt64.reduceOfNat,UInt64.reduceToNat,UInt32.reduceToNat,UInt16.reduceToNat,UInt8.reduceToNat,Int.reduceAdd,Int.reduceSub,Int.reduceMul,Nat.reduceMul,Qp0,Ql0,Qe0]; first | done | rfl)
          · first | rfl | (simp -dsimp -implicitDefEqProofs (disch := first | omega | assumption | (simp only [Option.isSome_some,Qt0]; done) | (simp only [UInt64.reduceToNat,UInt32.reduceToNat,UInt8.reduceToNat,List.length_cons,List.length_nil,List.length_append,Int.toNat_natCast] <;> omega)) only [Nat.reduceLT,Nat.reduceLeDiff,Nat.reduceEqDiff,↓reduceIte,Int.reduceLT,Int.reduceLE,Int.reduceToNat,Int.reduceEq,Int.reduceNe,Nat.reduceAdd,UInt8.reduceOfNat,UInt16.reduceOfNat,UInt32.reduceOfNat,UInt64.reduceOfNat,UInt64.reduceToNat,UInt32.reduceToNat,UInt16.reduceToNat,UInt8.reduceToNat,Int.reduceAdd,Int.reduceSub,Int.reduceMul,Nat.reduceMul,Qp0,Ql0,Qe0]; done)
          · have e : bs (d ++ lets ((((((0 : UInt32) <<< 8 ||| a.toUInt32) <<< 8) ||| b.toUInt32) <<< 8) ||| c.toUInt32) i) ++ [u8 (let64 (sh6 ((((((0 : UInt32) <<< 8 ||| a.toUInt32) <<< 8) ||| b.toUInt32) <<< 8) ||| c.toUInt32) i))] = bs (d ++ lets ((((((0 : UInt32) <<< 8 ||| a.toUInt32) <<< 8) ||| b.toUInt32) <<< 8) ||| c.toUInt32) (i + 1)) := by simp [bs, lets]
            rw [← e]; exact hou'
        · obtain rfl : i = 4 := by omega
          simp -dsimp -implicitDefEqProofs (disch := first | omega | assumption | (simp only [Option.isSome_some,Qt0]; done) | (simp only [UInt64.reduceToNat,UInt32.reduceToNat,UInt8.reduceToNat,List.length_cons,List.length_nil,List.length_append,Int.toNat_natCast] <;> omega)) only [Nat.reduceLT,Nat.reduceLeDiff,Nat.reduceEqDiff,↓reduceIte,Int.reduceLT,Int.reduceLE,Int.reduceToNat,Int.reduceEq,Int.reduceNe,Nat.reduceAdd,UInt8.reduceOfNat,UInt16.reduceOfNat,UInt32.reduceOfNat,UInt64.reduceOfNat,UInt64.reduceToNat,UInt32.reduceToNat,UInt16.reduceToNat,UInt8.reduceToNat,Int.reduceAdd,Int.reduceSub,Int.reduceMul,Nat.reduceMul,Qp0,Ql0,Qe0,g0,g5,g7,g4,g3]
          refine ⟨r.length, h'', by first | omega | (simp; done) | (simp; omega), PH.Le.refl _, r, d ++ lets ((((((0 : UInt32) <<< 8 ||| a.toUInt32) <<< 8) ||| b.toUInt32) <<< 8) ||| c.toUInt32) 4, u, rfl, by simp at hn ⊢ <;> omega, ?_, ?_, ?_, ?_⟩
          · first | rfl | (simp; done) | (trace_state; fail)
          · first | rfl | (simp -dsimp -implicitDefEqProofs (disch := first | omega | assumption | (simp only [Option.isSome_some,Qt0]; done) | (simp only [UInt64.reduceToNat,UInt32.reduceToNat,UInt8.reduceToNat,List.length_cons,List.length_nil,List.length_append,Int.toNat_natCast] <;> omega)) only [Nat.reduceLT,Nat.reduceLeDiff,Nat.reduceEqDiff,↓reduceIte,Int.reduceLT,Int.reduceLE,Int.reduceToNat,Int.reduceEq,Int.reduceNe,Nat.reduceAdd,UInt8.reduceOfNat,UInt16.reduceOfNat,UInt32.reduceOfNat,UInt64.reduceOfNat,UInt64.reduceToNat,UInt32.reduceToNat,UInt16.reduceToNat,UInt8.reduceToNat,Int.reduceAdd,Int.reduceSub,Int.reduceMul,Nat.reduceMul,Qp0,Ql0,Qe0,g3]; done)
          · simpa [lets_length] using hou
          · rw [← henc]; simp [enc, num3]
end Go.Proofs.YtdlaoeepeakpeaaGreat


/- Walk of mac.Equal: it answers whether two texts are the same bytes. -/
namespace Go.Proofs.YtdlaoeepeakpeaaGreat
set_option linter.unusedVariables false
set_option linter.unusedSimpArgs false
open Go.RowKit Px
theorem or_xor_zero (x p q : UInt8) : x ||| (p ^^^ q) = 0 ↔ x = 0 ∧ p = q := by
  constructor
  · intro h
    have h2 := congrArg UInt8.toBitVec h
    simp only [UInt8.toBitVec_or, UInt8.toBitVec_xor] at h2
    have hb : ∀ (u v w : BitVec 8), u ||| (v ^^^ w) = 0#8 → u = 0#8 ∧ v = w := by
      intro u v w h
      have hh : ∀ i, i < 8 → u.getLsbD i = false ∧ v.getLsbD i = w.getLsbD i := by
        intro i hi
        have := congrArg (fun z => BitVec.getLsbD z i) h
        simp at this
        exact this
      exact ⟨BitVec.eq_of_getLsbD_eq fun i hi => by rw [(hh i hi).1]; simp, BitVec.eq_of_getLsbD_eq fun i hi => (hh i hi).2⟩
    obtain ⟨h3, h4⟩ := hb _ _ _ h2
    exact ⟨UInt8.toBitVec_inj.1 h3, UInt8.toBitVec_inj.1 h4⟩
  · rintro ⟨rfl, rfl⟩; simp
theorem take_next (a : List UInt8) (k : Nat) (h : k < a.length) : a.take (k + 1) = a.take k ++ [a.getD k 0] := by
  rw [List.take_succ_eq_append_getElem h]; simp [List.getD, List.getElem?_eq_getElem h]
theorem same_step {a b : List UInt8} {k : Nat} (ha : k < a.length) (hb : k < b.length) {x : UInt8} (h : x = 0 ↔ a.take k = b.take k) :
    x ||| (a.getD k 0 ^^^ b.getD k 0) = 0 ↔ a.take (k + 1) = b.take (k + 1) := by
  rw [or_xor_zero, h, take_next a k ha, take_next b k hb]
  constructor
  · rintro ⟨h1, h2⟩; rw [h1, h2]
  · intro h1
    have := List.append_inj h1 (by simp; omega)
    exact ⟨this.1, by simpa using this.2⟩
set_option maxRecDepth 20000 in
set_option maxHeartbeats 1000000 in
theorem equal_any (a b : List UInt8) (ha : a.length ≤ 140737488351232) (w0 : World) (h : PH) : PCalls Tryz.prog w0 30 [str a, str b] h fun v h' => v = .bool (decide (a = b)) ∧ h' = h := by
  refine PCalls_body Tryz.func30 (by kernel_rfl) rfl _ Tryz.ntmps30 (by kernel_rfl) (by kernel_rfl) _ Tryz.results30 ?_
  by_cases hl : a.length = b.length
  · have hlI : ((a.length : Int) = (b.length : Int)) := by rw [hl]
    simp -dsimp -implicitDefEqProofs (disch := first | omega | assumption | (simp only [Option.isSome_some,Qt0]; done) | (simp only [UInt64.reduceToNat,UInt32.reduceToNat,UInt8.reduceToNat,List.length_cons,List.length_nil,List.length_append,Int.toNat_natCast] <;> omega)) only [Nat.reduceLT,Nat.reduceLeDiff,Nat.reduceEqDiff,↓reduceIte,Int.reduceLT,Int.reduceLE,Int.reduceToNat,Int.reduceEq,Int.reduceNe,Nat.reduceAdd,UInt8.reduceOfNat,UInt16.reduceOfNat,UInt32.reduceOfNat,UInt64.reduceOfNat,UInt64.reduceToNat,UInt32.reduceToNat,UInt16.reduceToNat,UInt8.reduceToNat,Int.reduceAdd,Int.reduceSub,Int.reduceMul,Nat.reduceMul,Qp0,Ql0,Qe0,hlI]
    refine Does_bytes Tryz.underlying9 Tryz.underlying74 Tryz.underlying5 (by unfold maxLen; omega) (fun v h1 how hne => ?_)
    obtain ⟨A, c, rfl, hc⟩ := how.own.len
    simp -dsimp -implicitDefEqProofs (disch := first | omega | assumption | (simp only [Option.isSome_some,Qt0]; done) | (simp only [UInt64.reduceToNat,UInt32.reduceToNat,UInt8.reduceToNat,List.length_cons,List.length_nil,List.length_append,Int.toNat_natCast] <;> omega)) only [Nat.reduceLT,Nat.reduceLeDiff,Nat.reduceEqDiff,↓reduceIte,Int.reduceLT,Int.reduceLE,Int.reduceToNat,Int.reduceEq,Int.reduceNe,Nat.reduceAdd,UInt8.reduceOfNat,UInt16.reduceOfNat,UInt32.reduceOfNat,UInt64.reduceOfNat,UInt64.reduceToNat,UInt32.reduceToNat,UInt16.reduceToNat,UInt8.reduceToNat,Int.reduceAdd,Int.reduceSub,Int.reduceMul,Nat.reduceMul,Qp0,Ql0,Qe0]
    refine PW_loop (fun n f h' => ∃ (k : Nat) (x : UInt8), k + n = a.length ∧ f 0 = some (str a) ∧ f 1 = some (str b) ∧ f 5 = some (u8 x) ∧ f 14 = some (.int .i64 a.length) ∧ f 15 = some (.int .i64 k) ∧ (x = 0 ↔ a.take k = b.take k) ∧ h' = h1) (by kernel_rfl) a.length ⟨0, 0, by omega, ?_, ?_, ?_, ?_, ?_, by simp, rfl⟩ ?_
    · simp -dsimp -implicitDefEqProofs (disch := first | omega | assumption | (simp only [Option.isSome_some,Qt0]; done) | (simp only [UInt64.reduceToNat,UInt32.reduceToNat,UInt8.reduceToNat,List.length_cons,List.length_nil,List.length_append,Int.toNat_natCast] <;> omega)) only [Nat.reduceLT,Nat.reduceLeDiff,Nat.reduceEqDiff,↓reduceIte,Int.reduceLT,Int.reduceLE,Int.reduceToNat,Int.reduceEq,Int.reduceNe,Nat.reduceAdd,UInt8.reduceOfNat,UInt16.reduceOfNat,UInt32.reduceOfNat,UInt64.reduceOfNat,UInt64.reduceToNat,UInt32.reduceToNat,UInt16.reduceToNat,UInt8.reduceToNat,Int.reduceAdd,Int.reduceSub,Int.reduceMul,Nat.reduceMul,Qp0,Ql0,Qe0]
    · simp -dsimp -implicitDefEqProofs (disch := first | omega | assumption | (simp only [Option.isSome_some,Qt0]; done) | (simp only [UInt64.reduceToNat,UInt32.reduceToNat,UInt8.reduceToNat,List.length_cons,List.length_nil,List.length_append,Int.toNat_natCast] <;> omega)) only [Nat.reduceLT,Nat.reduceLeDiff,Nat.reduceEqDiff,↓reduceIte,Int.reduceLT,Int.reduceLE,Int.reduceToNat,Int.reduceEq,Int.reduceNe,Nat.reduceAdd,UInt8.reduceOfNat,UInt16.reduceOfNat,UInt32.reduceOfNat,UInt64.reduceOfNat,UInt64.reduceToNat,UInt32.reduceToNat,UInt16.reduceToNat,UInt8.reduceToNat,Int.reduceAdd,Int.reduceSub,Int.reduceMul,Nat.reduceMul,Qp0,Ql0,Qe0]
    · simp -dsimp -implicitDefEqProofs (disch := first | omega | assumption | (simp only [Option.isSome_some,Qt0]; done) | (simp only [UInt64.reduceToNat,UInt32.reduceToNat,UInt8.reduceToNat,List.length_cons,List.length_nil,List.length_append,Int.toNat_natCast] <;> omega)) only [Nat.reduceLT,Nat.reduceLeDiff,Nat.reduceEqDiff,↓reduceIte,Int.reduceLT,Int.reduceLE,Int.reduceToNat,Int.reduceEq,Int.reduceNe,Nat.reduceAdd,UInt8.reduceOfNat,UInt16.reduceOfNat,UInt32.reduceOfNat,UInt64.reduceOfNat,UInt64.reduceToNat,UInt32.reduceToNat,UInt16.reduceToNat,UInt8.reduceToNat,Int.reduceAdd,Int.reduceSub,Int.reduceMul,Nat.reduceMul,Qp0,Ql0,Qe0]
    · simp -dsimp -implicitDefEqProofs (disch := first | omega | assumption | (simp only [Option.isSome_some,Qt0]; done) | (simp only [UInt64.reduceToNat,UInt32.reduceToNat,UInt8.reduceToNat,List.length_cons,List.length_nil,List.length_append,Int.toNat_natCast] <;> omega)) only [Nat.reduceLT,Nat.reduceLeDiff,Nat.reduceEqDiff,↓reduceIte,Int.reduceLT,Int.reduceLE,Int.reduceToNat,Int.reduceEq,Int.reduceNe,Nat.reduceAdd,UInt8.reduceOfNat,UInt16.reduceOfNat,UInt32.reduceOfNat,UInt64.reduceOfNat,UInt64.reduceToNat,UInt32.reduceToNat,UInt16.reduceToNat,UInt8.reduceToNat,Int.reduceAdd,Int.reduceSub,Int.reduceMul,Nat.reduceMul,Qp0,Ql0,Qe0]
    · simp -dsimp -implicitDefEqProofs (disch := first | omega | assumption | (simp only [Option.isSome_some,Qt0]; done) | (simp only [UInt64.reduceToNat,UInt32.reduceToNat,UInt8.reduceToNat,List.length_cons,List.length_nil,List.length_append,Int.toNat_natCast] <;> omega)) only [Nat.reduceLT,Nat.reduceLeDiff,Nat.reduceEqDiff,↓reduceIte,Int.reduceLT,Int.reduceLE,Int.reduceToNat,Int.reduceEq,Int.reduceNe,Nat.reduceAdd,UInt8.reduceOfNat,UInt16.reduceOfNat,UInt32.reduceOfNat,UInt64.reduceOfNat,UInt64.reduceToNat,UInt32.reduceToNat,UInt16.reduceToNat,UInt8.reduceToNat,Int.reduceAdd,Int.reduceSub,Int.reduceMul,Nat.reduceMul,Qp0,Ql0,Qe0]
      try rfl
    rintro n f h' ⟨k, x, hk, f0, f1, f5, f14, f15, hx, rfl⟩
    by_cases hlt : k < a.length
    · have hst := same_step hlt (by omega) hx
      have hltI : decide ((k : Int) < (a.length : Int)) = true := decide_eq_true (by omega)
      obtain ⟨p, hp⟩ : ∃ p, a.getD k 0 = p := ⟨_, rfl⟩
      obtain ⟨q, hq⟩ : ∃ q, b.getD k 0 = q := ⟨_, rfl⟩
      rw [hp, hq] at hst
      simp -dsimp -implicitDefEqProofs (disch := first | omega | assumption | (simp only [Option.isSome_some,Qt0]; done) | (simp only [UInt64.reduceToNat,UInt32.reduceToNat,UInt8.reduceToNat,List.length_cons,List.length_nil,List.length_append,Int.toNat_natCast] <;> omega)) only [Nat.reduceLT,Nat.reduceLeDiff,Nat.reduceEqDiff,↓reduceIte,Int.reduceLT,Int.reduceLE,Int.reduceToNat,Int.reduceEq,Int.reduceNe,Nat.reduceAdd,UInt8.reduceOfNat,UInt16.reduceOfNat,UInt32.reduceOfNat,UInt64.reduceOfNat,UInt64.reduceToNat,UInt32.reduceToNat,UInt16.reduceToNat,UInt8.reduceToNat,Int.reduceAdd,Int.reduceSub,Int.reduceMul,Nat.reduceMul,Qp0,Ql0,Qe0,f0,f1,f5,f14,f15,hltI]
      refine PW_drawn 10 h' (by kernel_rfl) (by kernel_rfl) (by kernel_rfl) (by kernel_rfl) (by kernel_rfl) (fun c f h hq => by simp only [thenC_panic, thenK_panic, inBlk_panic, thenN_panic, vcRet_panic] at hq) (PH.Le.refl _).sub ?_
      simp -dsimp -implicitDefEqProofs (disch := first | omega | assumption | (simp only [Option.isSome_some,Qt0]; done) | (simp only [UInt64.reduceToNat,UInt32.reduceToNat,UInt8.reduceToNat,List.length_cons,List.length_nil,List.length_append,Int.toNat_natCast] <;> omega)) only [Nat.reduceLT,Nat.reduceLeDiff,Nat.reduceEqDiff,↓reduceIte,Int.reduceLT,Int.reduceLE,Int.reduceToNat,Int.reduceEq,Int.reduceNe,Nat.reduceAdd,UInt8.reduceOfNat,UInt16.reduceOfNat,UInt32.reduceOfNat,UInt64.reduceOfNat,UInt64.reduceToNat,UInt32.reduceToNat,UInt16.reduceToNat,UInt8.reduceToNat,Int.reduceAdd,Int.reduceSub,Int.reduceMul,Nat.reduceMul,Qp0,Ql0,Qe0,f0,f1,f5,f14,f15,hp,hq]
      exact ⟨n - 1, _, by omega, PH.Le.refl _, k + 1, _, by omega, trivial, trivial, rfl, trivial, by simp, hst, rfl⟩
    · obtain rfl : k = a.length := by omega
      have hx' : x = 0 ↔ a = b := by
        rw [hx, List.take_length, hl, List.take_length]
      have hd : decide (x = 0) = decide (a = b) := by simp [hx']
      simp -dsimp -implicitDefEqProofs (disch := first | omega | assumption | (simp only [Option.isSome_some,Qt0]; done) | (simp only [UInt64.reduceToNat,UInt32.reduceToNat,UInt8.reduceToNat,List.length_cons,List.length_nil,List.length_append,Int.toNat_natCast] <;> omega)) only [Nat.reduceLT,Nat.reduceLeDiff,Nat.reduceEqDiff,↓reduceIte,Int.reduceLT,Int.reduceLE,Int.reduceToNat,Int.reduceEq,Int.reduceNe,Nat.reduceAdd,UInt8.reduceOfNat,UInt16.reduceOfNat,UInt32.reduceOfNat,UInt64.reduceOfNat,UInt64.reduceToNat,UInt32.reduceToNat,UInt16.reduceToNat,UInt8.reduceToNat,Int.reduceAdd,Int.reduceSub,Int.reduceMul,Nat.reduceMul,Qp0,Ql0,Qe0,f0,f1,f5,f14,f15,hd]
      exact ⟨_, how.le, by trivial, rfl⟩
  · have hlI : ¬ ((a.length : Int) = (b.length : Int)) := by omega
    have hd : decide (a = b) = false := decide_eq_false (fun e => hl (by rw [e]))
    simp -dsimp -implicitDefEqProofs (disch := first | omega | assumption | (simp only [Option.isSome_some,Qt0]; done) | (simp only [UInt64.reduceToNat,UInt32.reduceToNat,UInt8.reduceToNat,List.length_cons,List.length_nil,List.length_append,Int.toNat_natCast] <;> omega)) only [Nat.reduceLT,Nat.reduceLeDiff,Nat.reduceEqDiff,↓reduceIte,Int.reduceLT,Int.reduceLE,Int.reduceToNat,Int.reduceEq,Int.reduceNe,Nat.reduceAdd,UInt8.reduceOfNat,UInt16.reduceOfNat,UInt32.reduceOfNat,UInt64.reduceOfNat,UInt64.reduceToNat,UInt32.reduceToNat,UInt16.reduceToNat,UInt8.reduceToNat,Int.reduceAdd,Int.reduceSub,Int.reduceMul,Nat.reduceMul,Qp0,Ql0,Qe0,hlI,hd]
    exact ⟨_, PH.Le.refl _, trivial, rfl⟩
end Go.Proofs.YtdlaoeepeakpeaaGreat


/- Walks of token.Mint and token.read. -/
namespace Go.Proofs.YtdlaoeepeakpeaaGreat
set_option linter.unusedVariables false
set_option linter.unusedSimpArgs false
open Go.RowKit Px Wr
theorem derive_len (m : List UInt8) (n : Int) : (derive m n).length = 32 := tag_length _ _
/-- What Mint tells. -/
def MINT (h : PH) (key : Int → List UInt8) (c : Cl) (v : Value) : Prop := if rightC c = true then v = .tuple #[str (tok key c), .nilIface] else ∃ ev e, v = .tuple #[str [], ev] ∧ EV h e ev ∧ e.num = 1
theorem MINT_ok {h : PH} {key : Int → List UInt8} {c : Cl} {v : Value} (hr : rightC c = true) (hv : v = .tuple #[str (tok key c), .nilIface]) : MINT h key c v := by unfold MINT; rw [if_pos hr]; exact hv
theorem MINT_no {h : PH} {key : Int → List UInt8} {c : Cl} {v : Value} (hr : rightC c = false) (hv : ∃ ev e, v = .tuple #[str [], ev] ∧ EV h e ev ∧ e.num = 1) : MINT h key c v := by unfold MINT; rw [if_neg (by simp [hr])]; exact hv
set_option maxRecDepth 20000 in
set_option maxHeartbeats 4000000 in
theorem mint_any (rb : Nat) (m : List UInt8) (cur : Int) (hm : right m cur) (w0 : World) (h : PH) (hb : h.m rb = some ⟨[str m, .int .i64 cur], 2⟩) (c : Cl) (A : Option Addr) (cap : Nat) (hr : Rv w0 h A (ints c.x)) (hc : c.x.length ≤ cap) (hx : c.x.length ≤ 9223372036854775807) :
    PCalls Tryz.prog w0 10 [.pointer (some ⟨rb, 0, none⟩), .agg (clL c A cap).toArray] h fun v h' => MINT h' (derive m) { c with k := cur } v ∧ PH.Le h h' := by
  refine PCalls_body Tryz.func10 (by kernel_rfl) rfl _ Tryz.ntmps10 (by kernel_rfl) (by kernel_rfl) _ Tryz.results10 ?_
  unfold clL
  simp -dsimp -implicitDefEqProofs (disch := first | omega | assumption | (simp only [Option.isSome_some,Qt0]; done) | (simp only [List.length_cons,List.length_nil,List.length_append,Int.toNat_natCast] <;> omega)) only [Nat.reduceLT,Nat.reduceLeDiff,Nat.reduceEqDiff,↓reduceIte,Int.reduceLT,Int.reduceLE,Int.reduceToNat,Int.reduceEq,Int.reduceNe,Nat.reduceAdd,Int.reduceAdd,Int.reduceSub,Int.reduceMul,Nat.reduceMul,Qp0,Ql0,Qe0]
  refine fun pb hpb => ?_
  have hle0 := (PH.Le.refl h).new pb ⟨[str c.s, str c.u, .int .i64 c.e, .int .i64 c.i, .int .i64 c.k, .slice A c.x.length cap], 6⟩ hpb
  have hb0 := hle0.m _ _ hb
  have hCur := Lib.hid (current_any rb m cur w0 _ hb0)
  simp -dsimp -implicitDefEqProofs (disch := first | omega | assumption | (simp only [Option.isSome_some,Qt0]; done) | (simp only [List.length_cons,List.length_nil,List.length_append,Int.toNat_natCast] <;> omega)) only [Nat.reduceLT,Nat.reduceLeDiff,Nat.reduceEqDiff,↓reduceIte,Int.reduceLT,Int.reduceLE,Int.reduceToNat,Int.reduceEq,Int.reduceNe,Nat.reduceAdd,Int.reduceAdd,Int.reduceSub,Int.reduceMul,Nat.reduceMul,Qp0,Ql0,Qe0]
  refine hCur.out.mono ?_
  rintro v hq ⟨rfl, hz⟩
  obtain rfl := hz.symm
  simp -dsimp -implicitDefEqProofs (disch := first | omega | assumption | (simp only [Option.isSome_some,Qt0]; done) | (simp only [List.length_cons,List.length_nil,List.length_append,Int.toNat_natCast] <;> omega)) only [Nat.reduceLT,Nat.reduceLeDiff,Nat.reduceEqDiff,↓reduceIte,Int.reduceLT,Int.reduceLE,Int.reduceToNat,Int.reduceEq,Int.reduceNe,Nat.reduceAdd,Int.reduceAdd,Int.reduceSub,Int.reduceMul,Nat.reduceMul,Qp0,Ql0,Qe0,List.set_cons_zero,List.set_cons_succ,PH.new_new,List.set_nil]
  have hle := (PH.Le.refl h).new pb ⟨[str c.s, str c.u, .int .i64 c.e, .int .i64 c.i, .int .i64 cur, .slice A c.x.length cap], 6⟩ hpb
  have hp : (h.new pb ⟨[str c.s, str c.u, .int .i64 c.e, .int .i64 c.i, .int .i64 cur, .slice A c.x.length cap], 6⟩).m pb = some ⟨[str c.s, str c.u, .int .i64 c.e, .int .i64 c.i, .int .i64 cur, .slice A c.x.length cap], 6⟩ := by rw [PH.new_m, if_pos rfl]
  have hr1 := hr.more hle
  have hb1 := hle.m _ _ hb
  generalize h.new pb ⟨[str c.s, str c.u, .int .i64 c.e, .int .i64 c.i, .int .i64 cur, .slice A c.x.length cap], 6⟩ = h1 at *
  have hs0 : rdN w0 h1 ⟨pb, 0, none⟩ 6 = some [str c.s, str c.u, .int .i64 c.e, .int .i64 c.i, .int .i64 cur, .slice A c.x.length cap] := by unfold rdN; simp only [hp]; rfl
  have hE := encC_any w0 h1 { c with k := cur } A cap hr1 hc hx
  unfold clL at hE
  simp only at hE
  simp -dsimp -implicitDefEqProofs (disch := first | omega | assumption | (simp only [Option.isSome_some,Qt0]; done) | (simp only [List.length_cons,List.length_nil,List.length_append,Int.toNat_natCast] <;> omega)) only [Nat.reduceLT,Nat.reduceLeDiff,Nat.reduceEqDiff,↓reduceIte,Int.reduceLT,Int.reduceLE,Int.reduceToNat,Int.reduceEq,Int.reduceNe,Nat.reduceAdd,Int.reduceAdd,Int.reduceSub,Int.reduceMul,Nat.reduceMul,Qp0,Ql0,Qe0,hs0]
  refine hE.mono ?_
  rintro v h2 ⟨he, hl2⟩
  have hb2 := hl2.m _ _ hb1
  have hp2 := hl2.m _ _ hp
  unfold ENC at he
  cases hr : rightC { c with k := cur } with
  | false =>
    rw [hr, if_neg (by simp)] at he
    obtain ⟨ev, rfl, hev⟩ := he
    obtain ⟨t, x, rfl⟩ := hev.held
    simp -dsimp -implicitDefEqProofs (disch := first | omega | assumption | (simp only [Option.isSome_some,Qt0]; done) | (simp only [List.length_cons,List.length_nil,List.length_append,Int.toNat_natCast] <;> omega)) only [Nat.reduceLT,Nat.reduceLeDiff,Nat.reduceEqDiff,↓reduceIte,Int.reduceLT,Int.reduceLE,Int.reduceToNat,Int.reduceEq,Int.reduceNe,Nat.reduceAdd,Int.reduceAdd,Int.reduceSub,Int.reduceMul,Nat.reduceMul,Qp0,Ql0,Qe0]
    refine (at_ev tokenT 0 _ _ w0 _ hev).mono ?_
    rintro v h3 ⟨be, rfl, hbe, rfl⟩
    have hev3 := hev.at (s := tokenT) (a := 0) hbe
    unfold errV at *
    simp -dsimp -implicitDefEqProofs (disch := first | omega | assumption | (simp only [Option.isSome_some,Qt0]; done) | (simp only [List.length_cons,List.length_nil,List.length_append,Int.toNat_natCast] <;> omega)) only [Nat.reduceLT,Nat.reduceLeDiff,Nat.reduceEqDiff,↓reduceIte,Int.reduceLT,Int.reduceLE,Int.reduceToNat,Int.reduceEq,Int.reduceNe,Nat.reduceAdd,Int.reduceAdd,Int.reduceSub,Int.reduceMul,Nat.reduceMul,Qp0,Ql0,Qe0]
    exact ⟨_, PH.Le.refl _, MINT_no hr ⟨_, _, rfl, hev3, rfl⟩, (hle.trans hl2).trans ((PH.Le.refl _).new _ _ hbe)⟩
  | true =>
    rw [hr, if_pos rfl] at he
    subst he
    have hal : alive cur cur := ⟨hm.2.2.1, hm.2.2.2, by omega⟩
    have hK := Lib.hid (key_alive rb m cur cur w0 h2 hm.2.1 ⟨hm.2.2.1, hm.2.2.2⟩ hal hb2)
    have hbl := bytesC_le hr
    have hkl := derive_len m cur
    have hTok : tok (derive m) { c with k := cur } = Tx.enc (bytesC { c with k := cur }) ++ 46 :: Tx.enc (tag (derive m cur) (bytesC { c with k := cur })) := rfl
    generalize bytesC { c with k := cur } = B at hbl hTok ⊢
    generalize derive m cur = D at hkl hK hTok
    have hE1 := Lib.hid (enc_any B w0 h2 (by omega))
    have hTg := Lib.hid (tag_any D B (by omega) (by omega) w0 h2)
    have htl := tag_length D B
    generalize tag D B = G at htl hTg hTok
    have hE2 := Lib.hid (enc_any G w0 h2 (by omega))
    have l1 := Tx.enc_length B
    have l2 := Tx.enc_length G
    generalize Tx.enc B = E1 at hE1 l1 hTok
    generalize Tx.enc G = E2 at hE2 l2 hTok
    have hK := Lib.hid hK.out
    simp -dsimp -implicitDefEqProofs (disch := first | omega | assumption | (simp only [Option.isSome_some,Qt0]; done) | (simp only [List.length_cons,List.length_nil,List.length_append,Int.toNat_natCast] <;> omega)) only [Nat.reduceLT,Nat.reduceLeDiff,Nat.reduceEqDiff,↓reduceIte,Int.reduceLT,Int.reduceLE,Int.reduceToNat,Int.reduceEq,Int.reduceNe,Nat.reduceAdd,Int.reduceAdd,Int.reduceSub,Int.reduceMul,Nat.reduceMul,Qp0,Ql0,Qe0,rd_M,rdM_some,hp2]
    refine hK.out.mono ?_
    rintro v hq ⟨rfl, hz⟩
    obtain rfl := hz.symm
    simp -dsimp -implicitDefEqProofs (disch := first | omega | assumption | (simp only [Option.isSome_some,Qt0]; done) | (simp only [List.length_cons,List.length_nil,List.length_append,Int.toNat_natCast] <;> omega)) only [Nat.reduceLT,Nat.reduceLeDiff,Nat.reduceEqDiff,↓reduceIte,Int.reduceLT,Int.reduceLE,Int.reduceToNat,Int.reduceEq,Int.reduceNe,Nat.reduceAdd,Int.reduceAdd,Int.reduceSub,Int.reduceMul,Nat.reduceMul,Qp0,Ql0,Qe0]
    refine hE1.out.mono ?_
    rintro v hq ⟨rfl, hz⟩
    obtain rfl := hz.symm
    simp -dsimp -implicitDefEqProofs (disch := first | omega | assumption | (simp only [Option.isSome_some,Qt0]; done) | (simp only [List.length_cons,List.length_nil,List.length_append,Int.toNat_natCast] <;> omega)) only [Nat.reduceLT,Nat.reduceLeDiff,Nat.reduceEqDiff,↓reduceIte,Int.reduceLT,Int.reduceLE,Int.reduceToNat,Int.reduceEq,Int.reduceNe,Nat.reduceAdd,Int.reduceAdd,Int.reduceSub,Int.reduceMul,Nat.reduceMul,Qp0,Ql0,Qe0]
    refine hTg.out.mono ?_
    rintro v hq ⟨rfl, hz⟩
    obtain rfl := hz.symm
    simp -dsimp -implicitDefEqProofs (disch := first | omega | assumption | (simp only [Option.isSome_some,Qt0]; done) | (simp only [List.length_cons,List.length_nil,List.length_append,Int.toNat_natCast] <;> omega)) only [Nat.reduceLT,Nat.reduceLeDiff,Nat.reduceEqDiff,↓reduceIte,Int.reduceLT,Int.reduceLE,Int.reduceToNat,Int.reduceEq,Int.reduceNe,Nat.reduceAdd,Int.reduceAdd,Int.reduceSub,Int.reduceMul,Nat.reduceMul,Qp0,Ql0,Qe0]
    refine hE2.out.mono ?_
    rintro v hq ⟨rfl, hz⟩
    obtain rfl := hz.symm
    simp -dsimp -implicitDefEqProofs (disch := first | omega | assumption | (simp only [Option.isSome_some,Qt0]; done) | (simp only [List.length_cons,List.length_nil,List.length_append,Int.toNat_natCast] <;> omega)) only [Nat.reduceLT,Nat.reduceLeDiff,Nat.reduceEqDiff,↓reduceIte,Int.reduceLT,Int.reduceLE,Int.reduceToNat,Int.reduceEq,Int.reduceNe,Nat.reduceAdd,Int.reduceAdd,Int.reduceSub,Int.reduceMul,Nat.reduceMul,Qp0,Ql0,Qe0]
    exact ⟨_, PH.Le.refl _, MINT_ok hr (by rw [hTok]; simp), hle.trans hl2⟩
end Go.Proofs.YtdlaoeepeakpeaaGreat


/- Walks of token.read and token.Read. -/
namespace Go.Proofs.YtdlaoeepeakpeaaGreat
set_option linter.unusedVariables false
set_option linter.unusedSimpArgs false
open Go.RowKit Px Wr
def Z6 : List Value := [.string ⟨#[]⟩, .string ⟨#[]⟩, .int .i64 0, .int .i64 0, .int .i64 0, .slice none 0 0]
/-- A vector that ends in no 0 does not lie in a zero block. -/
theorem rv_put0 {w0 : World} {h : PH} {A : Option Addr} {x : List Int} {m : Int} {rb : Nat} (hr : Rv w0 h A (ints x)) (hl : Low w0 h) (hz : h.m rb = some ⟨Z6, 6⟩) (ht : trim x m = true) (k : Bk) : Rv w0 (h.new rb k) A (ints x) := by
  rcases List.eq_nil_or_concat x with rfl | ⟨y, z, hx⟩
  · exact Rv.nil _ _ _
  rw [List.concat_eq_append] at hx
  have hne : ∀ a, A = some a → ¬ a.block = rb := fun a ea e => by
    have hzn : z ≠ 0 := fun e0 => (trim_iff.1 ht).2.1 (by rw [hx, e0]; simp)
    have hg : (ints x)[y.length]? = some (.int .i64 z) := by rw [hx]; simp [ints]
    obtain ⟨b, o, hA, hc⟩ := hr _ _ hg
    rw [hA] at ea
    obtain rfl := Option.some.inj ea
    simp only at e
    subst e
    rcases hc with ⟨k', hk, hv⟩ | ⟨hlt, _⟩
    · rw [hz] at hk
      obtain rfl := Option.some.inj hk
      simp only at hv
      rcases (show o + y.length = 0 ∨ o + y.length = 1 ∨ o + y.length = 2 ∨ o + y.length = 3 ∨ o + y.length = 4 ∨ o + y.length = 5 ∨ 6 ≤ o + y.length by omega) with e | e | e | e | e | e | e
      all_goals first
        | (rw [e] at hv; simp [Z6] at hv; done)
        | (rw [e] at hv; simp [Z6] at hv; exact hzn hv.symm)
        | (rw [List.getElem?_eq_none (by simp [Z6]; omega)] at hv; cases hv)
    · rw [hl _ hlt] at hz; cases hz
  exact hr.chg (F := (· = rb)) ((Chg.refl _ _).one _) hne
theorem le_new2 {a b : PH} (l : PH.Le a b) (r : Nat) (k : Bk) : PH.Le (a.new r k) (b.new r k) := by
  refine ⟨by have := l.top; simp only [PH.new_top]; omega, fun x y e => ?_⟩
  rw [PH.new_m] at e ⊢
  by_cases hx : x = r
  · rw [if_pos hx] at e ⊢; exact e
  · rw [if_neg hx] at e ⊢; exact l.m x y e
/-- A ring's answers to Key. -/
def KEYR (al : Int → Prop) (key : Int → List UInt8) (n : Int) (h : PH) : Value → PH → Prop := fun v h' => (al n ∧ v = .tuple #[str (key n), .nilIface] ∧ h' = h) ∨ (¬ al n ∧ ∃ be, v = .tuple #[str [], errV be] ∧ PH.Le h h')
def KeyIs (w0 : World) (rv : Value) (al : Int → Prop) (key : Int → List UInt8) (h : PH) : Prop := (∀ n, (key n).length ≤ 100) ∧ ∀ n h', PH.Le h h' → PCalls Tryz.prog w0 24 [rv, .int .i64 n] h' (KEYR al key n h')
theorem KeyIs.more {w0 : World} {rv : Value} {al : Int → Prop} {key : Int → List UInt8} {h h' : PH} (k : KeyIs w0 rv al key h) (l : PH.Le h h') : KeyIs w0 rv al key h' := ⟨k.1, fun n h2 l2 => k.2 n h2 (l.trans l2)⟩
theorem key_ring (b : Nat) (m : List UInt8) (c : Int) (hm : right m c) (w0 : World) (h : PH) (hb : h.m b = some ⟨[str m, .int .i64 c], 2⟩) : KeyIs w0 (.pointer (some ⟨b, 0, none⟩)) (alive c) (derive m) h := by
  refine ⟨fun n => by rw [derive_len]; omega, fun n h' l => ?_⟩
  by_cases ha : alive c n
  · exact (key_alive b m c n w0 h' hm.2.1 ⟨hm.2.2.1, hm.2.2.2⟩ ha (l.m _ _ hb)).mono fun v h2 ⟨e1, e2⟩ => .inl ⟨ha, e1, e2⟩
  · exact (key_not b m c n w0 h' ⟨hm.2.2.1, hm.2.2.2⟩ ha (l.m _ _ hb)).mono fun v h2 ⟨be, e1, e2, e3⟩ => .inr ⟨ha, be, e1, by rw [e3]; exact (PH.Le.refl _).new _ _ e2⟩
def erO : Option Nat → Value
  | none => .nilIface
  | some b => errV b
theorem dec_er (s : List UInt8) (hs : s.length ≤ 4000000) (w0 : World) (h : PH) : PCalls Tryz.prog w0 28 [str s] h fun v h' => ∃ (x : List UInt8) (p : Option Nat), v = .tuple #[str x, erO p] ∧ PH.Le h h' ∧ (p = none → decR s = .inl x) ∧ (p ≠ none → ∃ a, decR s = .inr a) := by
  refine (dec_any s w0 h hs).mono ?_
  intro v h' hd
  unfold DecIs at hd
  cases hr : decR s with
  | inl out =>
    rw [hr] at hd
    obtain ⟨rfl, rfl⟩ := hd
    exact ⟨out, none, rfl, PH.Le.refl _, fun _ => rfl, fun hn => absurd rfl hn⟩
  | inr a =>
    rw [hr] at hd
    obtain ⟨be, rfl, hbe, rfl⟩ := hd
    exact ⟨[], some be, rfl, (PH.Le.refl _).new _ _ hbe, (fun hn => by cases hn), fun _ => ⟨a, rfl⟩⟩
theorem both_er (p q : Option Nat) (w0 : World) (h : PH) : PCalls Tryz.prog w0 14 [erO p, erO q] h fun r h' => ((p = none ∧ q = none ∧ r = .nilIface) ∨ (¬ (p = none ∧ q = none) ∧ ∃ t x, r = .iface t x)) ∧ h' = h := by
  cases p with
  | none =>
    refine (both_nil (erO q) w0 h).mono ?_
    rintro v h' ⟨rfl, rfl⟩
    cases q with
    | none => exact ⟨.inl ⟨rfl, rfl, rfl⟩, rfl⟩
    | some b => exact ⟨.inr ⟨by simp, _, _, rfl⟩, rfl⟩
  | some a =>
    cases q with
    | none =>
      refine (both_one _ _ w0 h).mono ?_
      rintro v h' ⟨rfl, rfl⟩
      exact ⟨.inr ⟨by simp, _, _, rfl⟩, rfl⟩
    | some b =>
      refine (both_two _ _ _ _ w0 h).mono ?_
      rintro v h' ⟨rfl, rfl⟩
      exact ⟨.inr ⟨by simp, _, _, rfl⟩, rfl⟩
/-- What read tells. -/
def RDI (w0 : World) (h0 h' : PH) (al : Int → Prop) (key : Int → List UInt8) (s : List UInt8) (v : Value) : Prop :=
  (∃ c A cap, IsT al key s c ∧ v = .tuple #[.agg (clL c A cap).toArray, .nilIface] ∧ c.x.length ≤ cap ∧ Rv w0 h' A (ints c.x) ∧ ∀ a, A = some a → h0.top ≤ a.block) ∨ ((∀ c, ¬ IsT al key s c) ∧ ∃ t x, v = .tuple #[.agg (clL clZ none 0).toArray, .iface t x])
theorem clz_eq : clL clZ none 0 = [str [], str [], .int .i64 0, .int .i64 0, .int .i64 0, .slice none 0 0] := rfl
set_option maxRecDepth 20000 in
set_option maxHeartbeats 4000000 in
theorem tread_any (rv : Value) (al : Int → Prop) (key : Int → List UInt8) (s : List UInt8) (hs : s.length ≤ 4000000) (w0 : World) (h : PH) (hk : KeyIs w0 rv al key h) : PCalls Tryz.prog w0 13 [rv, str s] h fun v h' => RDI w0 h h' al key s v ∧ PH.Le h h' := by
  refine PCalls_body Tryz.func13 (by kernel_rfl) rfl _ Tryz.ntmps13 (by kernel_rfl) (by kernel_rfl) _ Tryz.results13 ?_
  simp -dsimp -implicitDefEqProofs (disch := first | omega | assumption | (simp only [Option.isSome_some,Qt0]; done) | (simp only [List.length_cons,List.length_nil,List.length_append,Int.toNat_natCast] <;> omega)) only [Nat.reduceLT,Nat.reduceLeDiff,Nat.reduceEqDiff,↓reduceIte,Int.reduceLT,Int.reduceLE,Int.reduceToNat,Int.reduceEq,Int.reduceNe,Nat.reduceAdd,Int.reduceAdd,Int.reduceSub,Int.reduceMul,Nat.reduceMul,Qp0,Ql0,Qe0]
  refine fun rb hrb => ?_
  have hle := (PH.Le.refl h).new rb ⟨[.string ⟨#[]⟩, .string ⟨#[]⟩, .int .i64 0, .int .i64 0, .int .i64 0, .slice none 0 0], 6⟩ hrb
  have hm : (h.new rb ⟨[.string ⟨#[]⟩, .string ⟨#[]⟩, .int .i64 0, .int .i64 0, .int .i64 0, .slice none 0 0], 6⟩).m rb = some ⟨[.string ⟨#[]⟩, .string ⟨#[]⟩, .int .i64 0, .int .i64 0, .int .i64 0, .slice none 0 0], 6⟩ := by rw [PH.new_m, if_pos rfl]
  have hk1 := hk.more hle
  have hz := allOne_of [.string ⟨#[]⟩, .string ⟨#[]⟩, .int .i64 0, .int .i64 0, .int .i64 0, .slice none 0 0] rfl
  have hrb0 : h.top ≤ rb := hrb
  have hC := cut_dot s (by omega) w0 (h.new rb ⟨[.string ⟨#[]⟩, .string ⟨#[]⟩, .int .i64 0, .int .i64 0, .int .i64 0, .slice none 0 0], 6⟩)
  unfold cutV at hC
  simp -dsimp -implicitDefEqProofs (disch := first | omega | assumption | (simp only [Option.isSome_some,Qt0]; done) | (simp only [List.length_cons,List.length_nil,List.length_append,Int.toNat_natCast] <;> omega)) only [Nat.reduceLT,Nat.reduceLeDiff,Nat.reduceEqDiff,↓reduceIte,Int.reduceLT,Int.reduceLE,Int.reduceToNat,Int.reduceEq,Int.reduceNe,Nat.reduceAdd,Int.reduceAdd,Int.reduceSub,Int.reduceMul,Nat.reduceMul,Qp0,Ql0,Qe0]
  generalize h.new rb ⟨[.string ⟨#[]⟩, .string ⟨#[]⟩, .int .i64 0, .int .i64 0, .int .i64 0, .slice none 0 0], 6⟩ = h1 at *
  cases hc : cut1 s with
  | none =>
    rw [hc] at hC
    have hC := Lib.hid hC
    refine hC.out.mono ?_
    rintro v hq ⟨rfl, hz⟩
    obtain rfl := hz.symm
    simp -dsimp -implicitDefEqProofs (disch := first | omega | assumption | (simp only [Option.isSome_some,Qt0]; done) | (simp only [List.length_cons,List.length_nil,List.length_append,Int.toNat_natCast] <;> omega)) only [Nat.reduceLT,Nat.reduceLeDiff,Nat.reduceEqDiff,↓reduceIte,Int.reduceLT,Int.reduceLE,Int.reduceToNat,Int.reduceEq,Int.reduceNe,Nat.reduceAdd,Int.reduceAdd,Int.reduceSub,Int.reduceMul,Nat.reduceMul,Qp0,Ql0,Qe0,hm,List.take_zero,List.drop_succ_cons,List.drop_zero,List.drop_nil,List.nil_append,List.append_nil,rdN_new,List.take_succ_cons,ite_true]
    refine ⟨_, PH.Le.refl _, .inr ⟨fun c hcc => ?_, _, _, rfl⟩, hle.new _ _ hrb0⟩
    have := (isT_cut hcc).1
    rw [hc] at this; cases this
  | some p =>
    obtain ⟨a, b⟩ := p
    have hsab := (cut1_some hc).1
    have hal : a.length ≤ 4000000 := by rw [hsab] at hs; simp at hs; omega
    have hbl : b.length ≤ 4000000 := by rw [hsab] at hs; simp at hs; omega
    rw [hc] at hC
    have hC := Lib.hid hC
    have hD := fun s hs h => Lib.hid (dec_er s hs w0 h)
    refine hC.out.mono ?_
    rintro v hq ⟨rfl, hz⟩
    obtain rfl := hz.symm
    simp -dsimp -implicitDefEqProofs (disch := first | omega | assumption | (simp only [Option.isSome_some,Qt0]; done) | (simp only [List.length_cons,List.length_nil,List.length_append,Int.toNat_natCast] <;> omega)) only [Nat.reduceLT,Nat.reduceLeDiff,Nat.reduceEqDiff,↓reduceIte,Int.reduceLT,Int.reduceLE,Int.reduceToNat,Int.reduceEq,Int.reduceNe,Nat.reduceAdd,Int.reduceAdd,Int.reduceSub,Int.reduceMul,Nat.reduceMul,Qp0,Ql0,Qe0]
    refine (hD a hal h1).out.mono ?_
    rintro v h2 ⟨body, p, rfl, hl2, hp1, hp2⟩
    have hm2 := hl2.m _ _ hm
    have hle2 := hle.trans hl2
    simp -dsimp -implicitDefEqProofs (disch := first | omega | assumption | (simp only [Option.isSome_some,Qt0]; done) | (simp only [List.length_cons,List.length_nil,List.length_append,Int.toNat_natCast] <;> omega)) only [Nat.reduceLT,Nat.reduceLeDiff,Nat.reduceEqDiff,↓reduceIte,Int.reduceLT,Int.reduceLE,Int.reduceToNat,Int.reduceEq,Int.reduceNe,Nat.reduceAdd,Int.reduceAdd,Int.reduceSub,Int.reduceMul,Nat.reduceMul,Qp0,Ql0,Qe0]
    refine (hD b hbl h2).out.mono ?_
    rintro v h3 ⟨tg, q, rfl, hl3, hq1, hq2⟩
    have hm3 := hl3.m _ _ hm2
    have hle3 := hle2.trans hl3
    have hB := Lib.hid (both_er p q w0 h3)
    simp -dsimp -implicitDefEqProofs (disch := first | omega | assumption | (simp only [Option.isSome_some,Qt0]; done) | (simp only [List.length_cons,List.length_nil,List.length_append,Int.toNat_natCast] <;> omega)) only [Nat.reduceLT,Nat.reduceLeDiff,Nat.reduceEqDiff,↓reduceIte,Int.reduceLT,Int.reduceLE,Int.reduceToNat,Int.reduceEq,Int.reduceNe,Nat.reduceAdd,Int.reduceAdd,Int.reduceSub,Int.reduceMul,Nat.reduceMul,Qp0,Ql0,Qe0]
    refine hB.out.mono ?_
    rintro v hzz ⟨hv, rfl⟩
    rcases hv with ⟨rfl, rfl, rfl⟩ | ⟨hne, t, x, rfl⟩
    rotate_left
    · simp -dsimp -implicitDefEqProofs (disch := first | omega | assumption | (simp only [Option.isSome_some,Qt0]; done) | (simp only [List.length_cons,List.length_nil,List.length_append,Int.toNat_natCast] <;> omega)) only [Nat.reduceLT,Nat.reduceLeDiff,Nat.reduceEqDiff,↓reduceIte,Int.reduceLT,Int.reduceLE,Int.reduceToNat,Int.reduceEq,Int.reduceNe,Nat.reduceAdd,Int.reduceAdd,Int.reduceSub,Int.reduceMul,Nat.reduceMul,Qp0,Ql0,Qe0,hm3,List.take_zero,List.drop_succ_cons,List.drop_zero,List.drop_nil,List.nil_append,List.append_nil,rdN_new,List.take_succ_cons,ite_true]
      refine ⟨_, PH.Le.refl _, .inr ⟨fun c hcc => ?_, _, _, rfl⟩, hle3.new _ _ hrb0⟩
      obtain ⟨i1, i2, i3, _, _⟩ := isT_cut hcc
      rw [hc] at i1
      injection i1 with i1
      injection i1 with i1 i1'
      subst i1; subst i1'
      refine hne ⟨?_, ?_⟩
      · cases p with
        | none => rfl
        | some _ =>
          obtain ⟨_, e⟩ := hp2 (by simp)
          rw [i2] at e; cases e
      · cases q with
        | none => rfl
        | some _ =>
          obtain ⟨_, e⟩ := hq2 (by simp)
          rw [i3] at e; cases e
    have hd1 := hp1 rfl
    have hd2 := hq1 rfl
    have hbo : body.length ≤ a.length := by have := Tx.decN_len _ _ (decR_in hd1).2; simp [Tx.nums] at this; omega
    have hto : tg.length ≤ b.length := by have := Tx.decN_len _ _ (decR_in hd2).2; simp [Tx.nums] at this; omega
    clear hp1 hp2 hq1 hq2 hB hC hD
    have hW := Lib.hid (decCF_any body (by omega) w0 hzz)
    simp -dsimp -implicitDefEqProofs (disch := first | omega | assumption | (simp only [Option.isSome_some,Qt0]; done) | (simp only [List.length_cons,List.length_nil,List.length_append,Int.toNat_natCast] <;> omega)) only [Nat.reduceLT,Nat.reduceLeDiff,Nat.reduceEqDiff,↓reduceIte,Int.reduceLT,Int.reduceLE,Int.reduceToNat,Int.reduceEq,Int.reduceNe,Nat.reduceAdd,Int.reduceAdd,Int.reduceSub,Int.reduceMul,Nat.reduceMul,Qp0,Ql0,Qe0]
    refine hW.out.mono ?_
    rintro v h4 ⟨hd, hl4⟩
    have hm4 := hl4.m _ _ hm3
    have hle4 := hle3.trans hl4
    have hk4 := hk1.more ((hl2.trans hl3).trans hl4)
    rcases hd with ⟨c, A, cap, hic, rfl, hcap, hrv, hfr⟩ | ⟨hno, ev, e, rfl, hev, _⟩
    rotate_left
    · obtain ⟨t, x, rfl⟩ := hev.held
      rw [clz_eq]
      simp -dsimp -implicitDefEqProofs (disch := first | omega | assumption | (simp only [Option.isSome_some,Qt0]; done) | (simp only [List.length_cons,List.length_nil,List.length_append,Int.toNat_natCast] <;> omega)) only [Nat.reduceLT,Nat.reduceLeDiff,Nat.reduceEqDiff,↓reduceIte,Int.reduceLT,Int.reduceLE,Int.reduceToNat,Int.reduceEq,Int.reduceNe,Nat.reduceAdd,Int.reduceAdd,Int.reduceSub,Int.reduceMul,Nat.reduceMul,Qp0,Ql0,Qe0]
      refine fun cb hcb => ?_
      have hz2 := allOne_of [str [], str [], .int .i64 0, .int .i64 0, .int .i64 0, .slice none 0 0] rfl
      have hrc : (rb = cb) = False := eq_false (by have := h4.lt _ _ hm4; omega)
      have hle5 := fun k => hle4.new cb k (Nat.le_trans hle4.top hcb)
      simp -dsimp -implicitDefEqProofs (disch := first | omega | assumption | (simp only [Option.isSome_some,Qt0]; done) | (simp only [List.length_cons,List.length_nil,List.length_append,Int.toNat_natCast] <;> omega)) only [Nat.reduceLT,Nat.reduceLeDiff,Nat.reduceEqDiff,↓reduceIte,Int.reduceLT,Int.reduceLE,Int.reduceToNat,Int.reduceEq,Int.reduceNe,Nat.reduceAdd,Int.reduceAdd,Int.reduceSub,Int.reduceMul,Nat.reduceMul,Qp0,Ql0,Qe0,hz2,hz,hrc,hm4,PH.new_new,List.take_zero,List.drop_succ_cons,List.drop_zero,List.drop_nil,List.nil_append,List.append_nil,rdN_new,List.take_succ_cons,ite_true]
      refine ⟨_, PH.Le.refl _, .inr ⟨fun c hcc => ?_, t, x, rfl⟩, (hle4.new cb _ (Nat.le_trans hle4.top hcb)).new rb _ hrb0⟩
      obtain ⟨i1, i2, _, i4, _⟩ := isT_cut hcc
      rw [hc] at i1
      injection i1 with i1
      injection i1 with i1 _
      rw [← i1, hd1] at i2
      injection i2 with i2
      rw [← i2] at i4
      exact hno c i4
    unfold clL
    simp -dsimp -implicitDefEqProofs (disch := first | omega | assumption | (simp only [Option.isSome_some,Qt0]; done) | (simp only [List.length_cons,List.length_nil,List.length_append,Int.toNat_natCast] <;> omega)) only [Nat.reduceLT,Nat.reduceLeDiff,Nat.reduceEqDiff,↓reduceIte,Int.reduceLT,Int.reduceLE,Int.reduceToNat,Int.reduceEq,Int.reduceNe,Nat.reduceAdd,Int.reduceAdd,Int.reduceSub,Int.reduceMul,Nat.reduceMul,Qp0,Ql0,Qe0]
    refine fun cb hcb => ?_
    have hz2 := allOne_of [str c.s, str c.u, .int .i64 c.e, .int .i64 c.i, .int .i64 c.k, .slice A c.x.length cap] rfl
    have hlc := (PH.Le.refl h4).new cb ⟨[str c.s, str c.u, .int .i64 c.e, .int .i64 c.i, .int .i64 c.k, .slice A c.x.length cap], 6⟩ hcb
    have hmc : (h4.new cb ⟨[str c.s, str c.u, .int .i64 c.e, .int .i64 c.i, .int .i64 c.k, .slice A c.x.length cap], 6⟩).m cb = some ⟨[str c.s, str c.u, .int .i64 c.e, .int .i64 c.i, .int .i64 c.k, .slice A c.x.length cap], 6⟩ := by rw [PH.new_m, if_pos rfl]
    simp -dsimp -implicitDefEqProofs (disch := first | omega | assumption | (simp only [Option.isSome_some,Qt0]; done) | (simp only [List.length_cons,List.length_nil,List.length_append,Int.toNat_natCast] <;> omega)) only [Nat.reduceLT,Nat.reduceLeDiff,Nat.reduceEqDiff,↓reduceIte,Int.reduceLT,Int.reduceLE,Int.reduceToNat,Int.reduceEq,Int.reduceNe,Nat.reduceAdd,Int.reduceAdd,Int.reduceSub,Int.reduceMul,Nat.reduceMul,Qp0,Ql0,Qe0,hz2,PH.new_new,List.take_zero,List.drop_succ_cons,List.drop_zero,List.drop_nil,List.nil_append,List.append_nil,rdN_new,List.take_succ_cons,ite_true]
    generalize h4.new cb ⟨[str c.s, str c.u, .int .i64 c.e, .int .i64 c.i, .int .i64 c.k, .slice A c.x.length cap], 6⟩ = h5 at *
    have hm5 := hlc.m _ _ hm4
    have hle5 := hle4.trans hlc
    have hrv5 := hrv.more hlc
    have hK := Lib.hid ((hk4.more hlc).2 c.k h5 (PH.Le.refl _))
    have hkl := hk4.1 c.k
    simp -dsimp -implicitDefEqProofs (disch := first | omega | assumption | (simp only [Option.isSome_some,Qt0]; done) | (simp only [List.length_cons,List.length_nil,List.length_append,Int.toNat_natCast] <;> omega)) only [Nat.reduceLT,Nat.reduceLeDiff,Nat.reduceEqDiff,↓reduceIte,Int.reduceLT,Int.reduceLE,Int.reduceToNat,Int.reduceEq,Int.reduceNe,Nat.reduceAdd,Int.reduceAdd,Int.reduceSub,Int.reduceMul,Nat.reduceMul,Qp0,Ql0,Qe0,rd_M,rdM_some,hmc]
    refine hK.out.mono ?_
    rintro v h6 (⟨hal', rfl, rfl⟩ | ⟨hna, be, rfl, hl6⟩)
    rotate_left
    · have hm6 := hl6.m _ _ hm5
      unfold errV
      simp -dsimp -implicitDefEqProofs (disch := first | omega | assumption | (simp only [Option.isSome_some,Qt0]; done) | (simp only [List.length_cons,List.length_nil,List.length_append,Int.toNat_natCast] <;> omega)) only [Nat.reduceLT,Nat.reduceLeDiff,Nat.reduceEqDiff,↓reduceIte,Int.reduceLT,Int.reduceLE,Int.reduceToNat,Int.reduceEq,Int.reduceNe,Nat.reduceAdd,Int.reduceAdd,Int.reduceSub,Int.reduceMul,Nat.reduceMul,Qp0,Ql0,Qe0,hm6,hz,List.take_zero,List.drop_succ_cons,List.drop_zero,List.drop_nil,List.nil_append,List.append_nil,rdN_new,List.take_succ_cons,ite_true]
      refine ⟨_, PH.Le.refl _, .inr ⟨fun d hdd => ?_, _, _, rfl⟩, (hle5.trans hl6).new rb _ hrb0⟩
      obtain ⟨i1, i2, _, i4, i5⟩ := isT_cut hdd
      rw [hc] at i1
      injection i1 with i1
      injection i1 with i1 _
      rw [← i1, hd1] at i2
      injection i2 with i2
      rw [← i2] at i4
      rw [IsC_one' i4 hic] at i5
      exact hna i5
    have hTg := Lib.hid (tag_any (key c.k) body (by omega) (by have := bytesC_le hic.1; rw [← hic.2] at this; omega) w0 h6)
    have hEq := equal_any tg (tag (key c.k) body) (by omega) w0 h6
    obtain ⟨G, hG⟩ : ∃ G, tag (key c.k) body = G := ⟨_, rfl⟩
    rw [hG] at hTg hEq
    have hEq := Lib.hid hEq.lowR
    simp -dsimp -implicitDefEqProofs (disch := first | omega | assumption | (simp only [Option.isSome_some,Qt0]; done) | (simp only [List.length_cons,List.length_nil,List.length_append,Int.toNat_natCast] <;> omega)) only [Nat.reduceLT,Nat.reduceLeDiff,Nat.reduceEqDiff,↓reduceIte,Int.reduceLT,Int.reduceLE,Int.reduceToNat,Int.reduceEq,Int.reduceNe,Nat.reduceAdd,Int.reduceAdd,Int.reduceSub,Int.reduceMul,Nat.reduceMul,Qp0,Ql0,Qe0]
    refine hTg.out.mono ?_
    rintro v hq ⟨rfl, hz⟩
    obtain rfl := hz.symm
    simp -dsimp -implicitDefEqProofs (disch := first | omega | assumption | (simp only [Option.isSome_some,Qt0]; done) | (simp only [List.length_cons,List.length_nil,List.length_append,Int.toNat_natCast] <;> omega)) only [Nat.reduceLT,Nat.reduceLeDiff,Nat.reduceEqDiff,↓reduceIte,Int.reduceLT,Int.reduceLE,Int.reduceToNat,Int.reduceEq,Int.reduceNe,Nat.reduceAdd,Int.reduceAdd,Int.reduceSub,Int.reduceMul,Nat.reduceMul,Qp0,Ql0,Qe0]
    refine hEq.out.mono ?_
    rintro v hzz ⟨⟨rfl, hzq⟩, hlow⟩
    obtain rfl := hzq.symm
    cases he : decide (tg = G) with
    | false =>
      simp -dsimp -implicitDefEqProofs (disch := first | omega | assumption | (simp only [Option.isSome_some,Qt0]; done) | (simp only [List.length_cons,List.length_nil,List.length_append,Int.toNat_natCast] <;> omega)) only [Nat.reduceLT,Nat.reduceLeDiff,Nat.reduceEqDiff,↓reduceIte,Int.reduceLT,Int.reduceLE,Int.reduceToNat,Int.reduceEq,Int.reduceNe,Nat.reduceAdd,Int.reduceAdd,Int.reduceSub,Int.reduceMul,Nat.reduceMul,Qp0,Ql0,Qe0,he,hm5,hz,List.take_zero,List.drop_succ_cons,List.drop_zero,List.drop_nil,List.nil_append,List.append_nil,rdN_new,List.take_succ_cons,ite_true]
      refine ⟨_, PH.Le.refl _, .inr ⟨fun d hdd => ?_, _, _, rfl⟩, hle5.new rb _ hrb0⟩
      obtain ⟨i1, i2, i3, i4, i5⟩ := isT_cut hdd
      rw [hc] at i1
      injection i1 with i1
      injection i1 with i1 i1'
      rw [← i1, hd1] at i2
      injection i2 with i2
      rw [← i1', hd2] at i3
      injection i3 with i3
      rw [← i2] at i4 i3
      rw [IsC_one' i4 hic, hG] at i3
      exact of_decide_eq_false he i3
    | true =>
      have hC0 : rdN w0 h6 ⟨cb, 0, none⟩ 6 = some [str c.s, str c.u, .int .i64 c.e, .int .i64 c.i, .int .i64 c.k, .slice A c.x.length cap] := by unfold rdN; simp only [hmc]; rfl
      simp -dsimp -implicitDefEqProofs (disch := first | omega | assumption | (simp only [Option.isSome_some,Qt0]; done) | (simp only [List.length_cons,List.length_nil,List.length_append,Int.toNat_natCast] <;> omega)) only [Nat.reduceLT,Nat.reduceLeDiff,Nat.reduceEqDiff,↓reduceIte,Int.reduceLT,Int.reduceLE,Int.reduceToNat,Int.reduceEq,Int.reduceNe,Nat.reduceAdd,Int.reduceAdd,Int.reduceSub,Int.reduceMul,Nat.reduceMul,Qp0,Ql0,Qe0,he,hm5,hC0,hz2,List.take_zero,List.drop_succ_cons,List.drop_zero,List.drop_nil,List.nil_append,List.append_nil,rdN_new,List.take_succ_cons,ite_true]
      refine ⟨_, PH.Le.refl _, .inl ⟨c, A, cap, isT_of hc hd1 hd2 hic hal' (by rw [of_decide_eq_true he, hG]), rfl, hcap, rv_put0 hrv5 hlow hm5 (rightC_iff.1 hic.1).2.2.2.2.2.2.2 _, fun a ea => Nat.le_trans hle3.top (hfr a ea)⟩, hle5.new rb _ hrb0⟩
end Go.Proofs.YtdlaoeepeakpeaaGreat


/- Walks of the document's letter, and what its Enc and Dec share. -/
namespace Go.Proofs.YtdlaoeepeakpeaaGreat
set_option linter.unusedVariables false
set_option linter.unusedSimpArgs false
open Go.RowKit Px Tx
theorem let_a : ∀ n : Nat, n < 26 → UInt8.ofInt (65 + (n : Int)) = letters.getD n 0 := by decide +kernel
theorem let_b : ∀ n : Nat, n < 52 → 26 ≤ n → UInt8.ofInt (97 + (n : Int) - 26) = letters.getD n 0 := by decide +kernel
theorem let_c : ∀ n : Nat, n < 62 → 52 ≤ n → UInt8.ofInt (48 + (n : Int) - 52) = letters.getD n 0 := by decide +kernel
set_option maxRecDepth 20000 in
set_option maxHeartbeats 1000000 in
theorem letter_any (n : Nat) (hn : n < 64) (w0 : World) (h : PH) : PCalls Tryz.prog w0 58 [.int .i64 n] h fun v h' => v = u8 (letAt n) ∧ h' = h := by
  refine PCalls_body Tryz.func58 (by kernel_rfl) rfl _ Tryz.ntmps58 (by kernel_rfl) (by kernel_rfl) _ Tryz.results58 ?_
  have hL : letAt n = letters.getD n 0 := by unfold letAt; rw [Int.toNat_natCast]
  by_cases h1 : n < 26
  · simp -dsimp -implicitDefEqProofs (disch := first | omega | assumption | (simp only [Option.isSome_some,Qt0]; done) | (simp only [List.length_cons,List.length_nil,List.length_append,Int.toNat_natCast] <;> omega)) only [Nat.reduceLT,Nat.reduceLeDiff,Nat.reduceEqDiff,↓reduceIte,Int.reduceLT,Int.reduceLE,Int.reduceToNat,Int.reduceEq,Int.reduceNe,Nat.reduceAdd,Int.reduceAdd,Int.reduceSub,Int.reduceMul,Nat.reduceMul,Qp0,Ql0,Qe0]
    exact ⟨_, PH.Le.refl _, by rw [hL, let_a n h1], rfl⟩
  by_cases h2 : n < 52
  · simp -dsimp -implicitDefEqProofs (disch := first | omega | assumption | (simp only [Option.isSome_some,Qt0]; done) | (simp only [List.length_cons,List.length_nil,List.length_append,Int.toNat_natCast] <;> omega)) only [Nat.reduceLT,Nat.reduceLeDiff,Nat.reduceEqDiff,↓reduceIte,Int.reduceLT,Int.reduceLE,Int.reduceToNat,Int.reduceEq,Int.reduceNe,Nat.reduceAdd,Int.reduceAdd,Int.reduceSub,Int.reduceMul,Nat.reduceMul,Qp0,Ql0,Qe0]
    exact ⟨_, PH.Le.refl _, by rw [hL, let_b n h2 (by omega)], rfl⟩
  by_cases h3 : n < 62
  · simp -dsimp -implicitDefEqProofs (disch := first | omega | assumption | (simp only [Option.isSome_some,Qt0]; done) | (simp only [List.length_cons,List.length_nil,List.length_append,Int.toNat_natCast] <;> omega)) only [Nat.reduceLT,Nat.reduceLeDiff,Nat.reduceEqDiff,↓reduceIte,Int.reduceLT,Int.reduceLE,Int.reduceToNat,Int.reduceEq,Int.reduceNe,Nat.reduceAdd,Int.reduceAdd,Int.reduceSub,Int.reduceMul,Nat.reduceMul,Qp0,Ql0,Qe0]
    exact ⟨_, PH.Le.refl _, by rw [hL, let_c n h3 (by omega)], rfl⟩
  by_cases h4 : n = 62
  · subst h4
    simp -dsimp -implicitDefEqProofs (disch := first | omega | assumption | (simp only [Option.isSome_some,Qt0]; done) | (simp only [List.length_cons,List.length_nil,List.length_append,Int.toNat_natCast] <;> omega)) only [Nat.reduceLT,Nat.reduceLeDiff,Nat.reduceEqDiff,↓reduceIte,Int.reduceLT,Int.reduceLE,Int.reduceToNat,Int.reduceEq,Int.reduceNe,Nat.reduceAdd,Int.reduceAdd,Int.reduceSub,Int.reduceMul,Nat.reduceMul,Qp0,Ql0,Qe0]
    exact ⟨_, PH.Le.refl _, by rw [hL]; rfl, rfl⟩
  · obtain rfl : n = 63 := by omega
    simp -dsimp -implicitDefEqProofs (disch := first | omega | assumption | (simp only [Option.isSome_some,Qt0]; done) | (simp only [List.length_cons,List.length_nil,List.length_append,Int.toNat_natCast] <;> omega)) only [Nat.reduceLT,Nat.reduceLeDiff,Nat.reduceEqDiff,↓reduceIte,Int.reduceLT,Int.reduceLE,Int.reduceToNat,Int.reduceEq,Int.reduceNe,Nat.reduceAdd,Int.reduceAdd,Int.reduceSub,Int.reduceMul,Nat.reduceMul,Qp0,Ql0,Qe0]
    exact ⟨_, PH.Le.refl _, by rw [hL]; rfl, rfl⟩
def is (l : List Int) : List Value := l.map fun n => .int .i64 n
theorem is_one (l : List Int) : allOne (is l) := by
  intro v hv
  obtain ⟨_, _, rfl⟩ := List.mem_map.1 hv
  rfl
theorem rd_is {w0 : World} {h : PH} {b lim : Nat} {N : List Int} (hb : h.m b = some ⟨is N, lim⟩) {j : Nat} (hj : j < N.length) : rd w0 h ⟨b, j, none⟩ = some (.int .i64 (N.getD j 0)) := by
  unfold rd
  simp only [if_true, hb]
  simp [is, List.getD, List.getElem?_eq_getElem hj]
theorem info_intt : (Tryz.prog.info? 3).map (fun i => (i.zero, i.size, i.bytes)) = some (some (.int .i64 0), 1, 8) := by kernel_rfl
theorem el_intt : El Tryz.prog 28 3 (.int .i64 0) 1 8 := ⟨Tryz.underlying28, info_parts info_intt, rfl, by decide⟩
theorem info_u8e : (Tryz.prog.info? 5).map (fun i => (i.zero, i.size, i.bytes)) = some (some (.int .u8 0), 1, 1) := by kernel_rfl
theorem el_u8e : El Tryz.prog 74 5 (.int .u8 0) 1 1 := ⟨Tryz.underlying74, info_parts info_u8e, rfl, by decide⟩
end Go.Proofs.YtdlaoeepeakpeaaGreat

