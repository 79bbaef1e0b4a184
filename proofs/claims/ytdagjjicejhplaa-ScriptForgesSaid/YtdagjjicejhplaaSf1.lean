/- Scripts: the rest of a number, many bytes, strings.Repeat, in the logic; what Forge shows. No condition. -/
import Derived.Test.YtdagjjicejhplaaKit
import Derived.Test.YtdagjjicejhplaaRep
import Derived.Test.YtdagjjicejhplaaScrAwake
import Derived.Test.YtdagjjicejhplaaTxE
import Derived.Test.YtdagjjicejhplaaTxRe
namespace Go.Proofs.Ytdagjjicejhplaa
set_option linter.unusedVariables false
set_option linter.unusedSimpArgs false
open Go.RowKit Px Tx
theorem srest_any (n b : Int) (hb : 1 ≤ b) (hb2 : b ≤ 256) (w0 : World) (h : PH) : PCalls Try.prog w0 17 [.int .i64 n, .int .i64 b] h fun v h' => v = .int .i64 (n % b) ∧ h' = h :=
  PCalls_kitX (by kernel_rfl) fun w _ => (rest_any n b w hb hb2).mono fun e w' ⟨h1, h2⟩ => ⟨h1, h2 ▸ Below.refl _ _⟩
theorem sleft_any (n b : Int) (hb : 1 ≤ b) (hb2 : b ≤ 256) (w0 : World) (h : PH) : PCalls Try.prog w0 19 [.int .i64 n, .int .i64 b] h fun v h' => v = .int .i64 (n % b) ∧ h' = h :=
  PCalls_kitX (by kernel_rfl) fun w _ => (left_any n b w hb hb2).mono fun e w' ⟨h1, h2⟩ => ⟨h1, h2 ▸ Below.refl _ _⟩
theorem sawake_any (w0 : World) (h : PH) : PCalls Try.prog w0 7 [] h fun v h' => v = .bool true ∧ h' = h :=
  PCalls_kitX (by kernel_rfl) fun w _ => Aw.awake_any w
theorem srepeat_any (e : UInt8) (n : Nat) (hn : n ≤ 1000) (w0 : World) (h : PH) : PCalls Try.prog w0 21 [str [e], .int .i64 n] h fun v h' => v = str (List.replicate n e) ∧ h' = h := by
  refine PCalls_kitX (by kernel_rfl) fun w _ => ?_
  have hl : Lib.repeatL [e] n = List.replicate n e := by
    have := Lib.repeatL_replicate e 1 n
    simpa using this
  have := Try.strings_Repeat ⟨[e].toArray⟩ n w (by omega) (by simp [size_mk]; omega)
  simp only [hl] at this
  exact this
/-- What is shown in the place of a header. -/
def forgeT (C : Int) (d : Nat) (e : UInt8) (s : List UInt8) : List UInt8 :=
  if C = 0 then s.take d else
  if C = 1 then (if s = [] then [] else s.set (d % s.length) (s.getD (d % s.length) 0 ^^^ (e + 1))) else
  if C = 2 then s ++ [59, 32] ++ s else
  if C = 3 then s ++ [e] else
  if C = 4 then List.replicate d e else
  if C = 5 then [115, 111, 106, 111, 117, 114, 110, 61] ++ enc (List.replicate d e) ++ [46] ++ enc (List.replicate 32 (UInt8.ofInt d)) else s.drop d
set_option maxRecDepth 20000 in
set_option maxHeartbeats 1000000 in
theorem smany_any (c : UInt8) (m : Nat) (hm : m ≤ 100000) (w0 : World) (h : PH) : PCalls Try.prog w0 23 [.int .i64 m, u8 c] h fun v h' => v = str (List.replicate m c) ∧ h' = h := by
  refine PCalls_body Try.func23 (by kernel_rfl) rfl _ Try.ntmps23 (by kernel_rfl) (by kernel_rfl) _ Try.results23 ?_
  simp -dsimp -implicitDefEqProofs (disch := first | omega | assumption | (simp only [Option.isSome_some, Qt0]; done) | (simp only [UInt64.reduceToNat, UInt32.reduceToNat, UInt8.reduceToNat, List.length_cons, List.length_nil, List.length_append, Int.toNat_natCast] <;> omega)) only [Nat.reduceLT, Nat.reduceLeDiff, Nat.reduceEqDiff, ↓reduceIte, Int.reduceLT, Int.reduceLE, Int.reduceToNat, Int.reduceEq, Int.reduceNe, Nat.reduceAdd, UInt8.reduceOfNat, UInt16.reduceOfNat, UInt32.reduceOfNat, UInt64.reduceOfNat, UInt64.reduceToNat, UInt32.reduceToNat, UInt16.reduceToNat, UInt8.reduceToNat, Int.reduceAdd, Int.reduceSub, Int.reduceMul, Nat.reduceMul, Qp0, Ql0, Qe0]
  refine Does_zero el_u8t (fun b0 hb0 => ?_)
  have how0 := OwnS.zero (h := h) 1 hb0
  simp -dsimp -implicitDefEqProofs (disch := first | omega | assumption | (simp only [Option.isSome_some, Qt0]; done) | (simp only [UInt64.reduceToNat, UInt32.reduceToNat, UInt8.reduceToNat, List.length_cons, List.length_nil, List.length_append, Int.toNat_natCast] <;> omega)) only [Nat.reduceLT, Nat.reduceLeDiff, Nat.reduceEqDiff, ↓reduceIte, Int.reduceLT, Int.reduceLE, Int.reduceToNat, Int.reduceEq, Int.reduceNe, Nat.reduceAdd, UInt8.reduceOfNat, UInt16.reduceOfNat, UInt32.reduceOfNat, UInt64.reduceOfNat, UInt64.reduceToNat, UInt32.reduceToNat, UInt16.reduceToNat, UInt8.reduceToNat, Int.reduceAdd, Int.reduceSub, Int.reduceMul, Nat.reduceMul, Qp0, Ql0, Qe0]
  refine PW_loop (fun n f h' => ∃ (k : Nat) (v : Value), k + n = m ∧ f 0 = some (.int .i64 m) ∧ f 1 = some (u8 c) ∧ f 6 = some (.int .i64 k) ∧ f 5 = some v ∧ OwnS h h' 1 v k (bs (List.replicate k c))) (by kernel_rfl) m ⟨0, _, by omega, ?_, ?_, ?_, ?_, how0⟩ ?_
  · simp -dsimp -implicitDefEqProofs (disch := first | omega | assumption | (simp only [Option.isSome_some, Qt0]; done) | (simp only [UInt64.reduceToNat, UInt32.reduceToNat, UInt8.reduceToNat, List.length_cons, List.length_nil, List.length_append, Int.toNat_natCast] <;> omega)) only [Nat.reduceLT, Nat.reduceLeDiff, Nat.reduceEqDiff, ↓reduceIte, Int.reduceLT, Int.reduceLE, Int.reduceToNat, Int.reduceEq, Int.reduceNe, Nat.reduceAdd, UInt8.reduceOfNat, UInt16.reduceOfNat, UInt32.reduceOfNat, UInt64.reduceOfNat, UInt64.reduceToNat, UInt32.reduceToNat, UInt16.reduceToNat, UInt8.reduceToNat, Int.reduceAdd, Int.reduceSub, Int.reduceMul, Nat.reduceMul, Qp0, Ql0, Qe0]
  · simp -dsimp -implicitDefEqProofs (disch := first | omega | assumption | (simp only [Option.isSome_some, Qt0]; done) | (simp only [UInt64.reduceToNat, UInt32.reduceToNat, UInt8.reduceToNat, List.length_cons, List.length_nil, List.length_append, Int.toNat_natCast] <;> omega)) only [Nat.reduceLT, Nat.reduceLeDiff, Nat.reduceEqDiff, ↓reduceIte, Int.reduceLT, Int.reduceLE, Int.reduceToNat, Int.reduceEq, Int.reduceNe, Nat.reduceAdd, UInt8.reduceOfNat, UInt16.reduceOfNat, UInt32.reduceOfNat, UInt64.reduceOfNat, UInt64.reduceToNat, UInt32.reduceToNat, UInt16.reduceToNat, UInt8.reduceToNat, Int.reduceAdd, Int.reduceSub, Int.reduceMul, Nat.reduceMul, Qp0, Ql0, Qe0]
  · simp -dsimp -implicitDefEqProofs (disch := first | omega | assumption | (simp only [Option.isSome_some, Qt0]; done) | (simp only [UInt64.reduceToNat, UInt32.reduceToNat, UInt8.reduceToNat, List.length_cons, List.length_nil, List.length_append, Int.toNat_natCast] <;> omega)) only [Nat.reduceLT, Nat.reduceLeDiff, Nat.reduceEqDiff, ↓reduceIte, Int.reduceLT, Int.reduceLE, Int.reduceToNat, Int.reduceEq, Int.reduceNe, Nat.reduceAdd, UInt8.reduceOfNat, UInt16.reduceOfNat, UInt32.reduceOfNat, UInt64.reduceOfNat, UInt64.reduceToNat, UInt32.reduceToNat, UInt16.reduceToNat, UInt8.reduceToNat, Int.reduceAdd, Int.reduceSub, Int.reduceMul, Nat.reduceMul, Qp0, Ql0, Qe0]
  · simp -dsimp -implicitDefEqProofs (disch := first | omega | assumption | (simp only [Option.isSome_some, Qt0]; done) | (simp only [UInt64.reduceToNat, UInt32.reduceToNat, UInt8.reduceToNat, List.length_cons, List.length_nil, List.length_append, Int.toNat_natCast] <;> omega)) only [Nat.reduceLT, Nat.reduceLeDiff, Nat.reduceEqDiff, ↓reduceIte, Int.reduceLT, Int.reduceLE, Int.reduceToNat, Int.reduceEq, Int.reduceNe, Nat.reduceAdd, UInt8.reduceOfNat, UInt16.reduceOfNat, UInt32.reduceOfNat, UInt64.reduceOfNat, UInt64.reduceToNat, UInt32.reduceToNat, UInt16.reduceToNat, UInt8.reduceToNat, Int.reduceAdd, Int.reduceSub, Int.reduceMul, Nat.reduceMul, Qp0, Ql0, Qe0]
    try rfl
  rintro n f h' ⟨k, v, hk, f0, f1, f6, f5, how⟩
  by_cases hlt : k < m
  · have e1 : decide ((k : Int) < (m : Int)) = true := decide_eq_true (by omega)
    simp -dsimp -implicitDefEqProofs (disch := first | omega | assumption | (simp only [Option.isSome_some, Qt0]; done) | (simp only [UInt64.reduceToNat, UInt32.reduceToNat, UInt8.reduceToNat, List.length_cons, List.length_nil, List.length_append, Int.toNat_natCast] <;> omega)) only [Nat.reduceLT, Nat.reduceLeDiff, Nat.reduceEqDiff, ↓reduceIte, Int.reduceLT, Int.reduceLE, Int.reduceToNat, Int.reduceEq, Int.reduceNe, Nat.reduceAdd, UInt8.reduceOfNat, UInt16.reduceOfNat, UInt32.reduceOfNat, UInt64.reduceOfNat, UInt64.reduceToNat, UInt32.reduceToNat, UInt16.reduceToNat, UInt8.reduceToNat, Int.reduceAdd, Int.reduceSub, Int.reduceMul, Nat.reduceMul, Qp0, Ql0, Qe0, f0, f1, f6, f5, e1]
    refine Does_one (v := u8 _) el_u8t rfl (by omega) (fun gb hgb => ?_)
    simp -dsimp -implicitDefEqProofs (disch := first | omega | assumption | (simp only [Option.isSome_some, Qt0]; done) | (simp only [UInt64.reduceToNat, UInt32.reduceToNat, UInt8.reduceToNat, List.length_cons, List.length_nil, List.length_append, Int.toNat_natCast] <;> omega)) only [Nat.reduceLT, Nat.reduceLeDiff, Nat.reduceEqDiff, ↓reduceIte, Int.reduceLT, Int.reduceLE, Int.reduceToNat, Int.reduceEq, Int.reduceNe, Nat.reduceAdd, UInt8.reduceOfNat, UInt16.reduceOfNat, UInt32.reduceOfNat, UInt64.reduceOfNat, UInt64.reduceToNat, UInt32.reduceToNat, UInt16.reduceToNat, UInt8.reduceToNat, Int.reduceAdd, Int.reduceSub, Int.reduceMul, Nat.reduceMul, Qp0, Ql0, Qe0, f0, f1, f6, f5]
    refine Does_app el_u8t (how.more ((PH.Le.refl _).new _ _ hgb)).own (Rs.blk (k := ⟨[u8 c], 1⟩) (by rw [PH.new_m, if_pos rfl]; rfl) rfl) (bs_one [c]) (by unfold maxLen; omega) (by omega) (fun v' h3' ho hst => ?_)
    have hou' := (how.more ((PH.Le.refl _).new _ _ hgb)).stays hst ho
    have hq : bs (List.replicate k c) ++ [u8 c] = bs (List.replicate (k + 1) c) := by
      rw [List.replicate_succ']; simp [bs]
    rw [hq] at hou'
    simp -dsimp -implicitDefEqProofs (disch := first | omega | assumption | (simp only [Option.isSome_some, Qt0]; done) | (simp only [UInt64.reduceToNat, UInt32.reduceToNat, UInt8.reduceToNat, List.length_cons, List.length_nil, List.length_append, Int.toNat_natCast] <;> omega)) only [Nat.reduceLT, Nat.reduceLeDiff, Nat.reduceEqDiff, ↓reduceIte, Int.reduceLT, Int.reduceLE, Int.reduceToNat, Int.reduceEq, Int.reduceNe, Nat.reduceAdd, UInt8.reduceOfNat, UInt16.reduceOfNat, UInt32.reduceOfNat, UInt64.reduceOfNat, UInt64.reduceToNat, UInt32.reduceToNat, UInt16.reduceToNat, UInt8.reduceToNat, Int.reduceAdd, Int.reduceSub, Int.reduceMul, Nat.reduceMul, Qp0, Ql0, Qe0, f0, f1, f6, f5]
    exact ⟨n - 1, h3', by omega, PH.Le.refl _, k + 1, v', by omega, by trivial, by trivial, by simp, by trivial, hou'⟩
  · have e1 : decide ((k : Int) < (m : Int)) = false := decide_eq_false (by omega)
    obtain rfl : k = m := by omega
    obtain ⟨A7, c7, rfl, _⟩ := how.own.len
    have hlr : (List.replicate k c).length = k := List.length_replicate
    simp -dsimp -implicitDefEqProofs (disch := first | omega | assumption | (simp only [Option.isSome_some, Qt0]; done) | (simp only [UInt64.reduceToNat, UInt32.reduceToNat, UInt8.reduceToNat, List.length_cons, List.length_nil, List.length_append, Int.toNat_natCast] <;> omega)) only [Nat.reduceLT, Nat.reduceLeDiff, Nat.reduceEqDiff, ↓reduceIte, Int.reduceLT, Int.reduceLE, Int.reduceToNat, Int.reduceEq, Int.reduceNe, Nat.reduceAdd, UInt8.reduceOfNat, UInt16.reduceOfNat, UInt32.reduceOfNat, UInt64.reduceOfNat, UInt64.reduceToNat, UInt32.reduceToNat, UInt16.reduceToNat, UInt8.reduceToNat, Int.reduceAdd, Int.reduceSub, Int.reduceMul, Nat.reduceMul, Qp0, Ql0, Qe0, f0, f1, f6, f5, e1]
    refine vtext_own (l := List.replicate k c) Try.underlying31 Try.underlying5 Try.underlying9 (Rs.own how.own) ?_ ?_
    · rintro rfl; rcases how.own.2 with ⟨_, h1⟩ | ⟨b, c', h1, _⟩
      · exact h1
      · cases h1
    · simp -dsimp -implicitDefEqProofs (disch := first | omega | assumption | (simp only [Option.isSome_some, Qt0]; done) | (simp only [UInt64.reduceToNat, UInt32.reduceToNat, UInt8.reduceToNat, List.length_cons, List.length_nil, List.length_append, Int.toNat_natCast] <;> omega)) only [Nat.reduceLT, Nat.reduceLeDiff, Nat.reduceEqDiff, ↓reduceIte, Int.reduceLT, Int.reduceLE, Int.reduceToNat, Int.reduceEq, Int.reduceNe, Nat.reduceAdd, UInt8.reduceOfNat, UInt16.reduceOfNat, UInt32.reduceOfNat, UInt64.reduceOfNat, UInt64.reduceToNat, UInt32.reduceToNat, UInt16.reduceToNat, UInt8.reduceToNat, Int.reduceAdd, Int.reduceSub, Int.reduceMul, Nat.reduceMul, Qp0, Ql0, Qe0]
      exact ⟨_, how.le, by trivial, rfl⟩
end Go.Proofs.Ytdagjjicejhplaa
