/- Parts TxD, TxDb, TxBv, joined. No condition. -/
import Derived.Test.YtdlaoeepeakpeaaM8A
import Derived.Test.YtdlaoeepeakpeaaM3A
/- Walk of text.Dec where the letters are right: the bytes of letters. -/
namespace Go.Proofs.Ytdlaoeepeakpeaa
set_option linter.unusedVariables false
set_option linter.unusedSimpArgs false
open Go.RowKit Px Tx
theorem info_u8d : (Try.prog.info? 5).map (fun i => (i.zero, i.size, i.bytes)) = some (some (.int .u8 0), 1, 1) := by kernel_rfl
theorem el_u8d : El Try.prog 49 5 (.int .u8 0) 1 1 := ⟨Try.underlying49, info_parts info_u8d, rfl, by decide⟩
theorem info_u32t : (Try.prog.info? 88).map (fun i => (i.zero, i.size, i.bytes)) = some (some (.int .u32 0), 1, 4) := by kernel_rfl
theorem el_u32t : El Try.prog 112 88 (.int .u32 0) 1 4 := ⟨Try.underlying112, info_parts info_u32t, rfl, by decide⟩
def wst (l : List UInt32) : List Value := l.map u32
theorem wst_one (l : List UInt32) : allOne (wst l) := by
  intro v hv
  obtain ⟨_, _, rfl⟩ := List.mem_map.1 hv
  rfl
theorem rd_ws {w0 : World} {h : PH} {b o lim : Nat} {N r : List UInt32} (hb : h.m b = some ⟨wst N, lim⟩) (hr : N.drop o = r) {j : Nat} {x : UInt32} (hx : r[j]? = some x) : rd w0 h ⟨b, o + j, none⟩ = some (u32 x) := by
  unfold rd
  simp only [if_true, hb]
  rw [← hr, List.getElem?_drop] at hx
  simp [wst, hx]
theorem dec_split {a x y z : UInt32} {t : List UInt32} {d out : List UInt8} (hd : (decN (a :: x :: y :: z :: t)).map (d ++ ·) = some out) :
    (decN t).map ((d ++ [(four a x y z >>> 16).toUInt8, (four a x y z >>> 8).toUInt8, (four a x y z).toUInt8]) ++ ·) = some out := by
  rw [← hd]
  simp only [decN, Option.map_map]
  congr 1
  funext o
  simp
theorem nums_snoc (s : List UInt8) (k : Nat) (h : k < s.length) : wst (nums (s.take k)) ++ [u32 (UInt32.ofInt (idx (s.getD k 0)))] = wst (nums (s.take (k + 1))) := by
  rw [take_snoc8 s k h]; simp [wst, nums]
set_option maxRecDepth 20000 in
set_option maxHeartbeats 4000000 in
theorem dec_good (s out : List UInt8) (w0 : World) (h : PH) (hs : s.length ≤ 4000000) (hg : ∀ c ∈ s, 0 ≤ idx c) (hd : decN (nums s) = some out) :
    PCalls Try.prog w0 40 [str s] h fun v h' => v = .tuple #[str out, .nilIface] ∧ h' = h := by
  refine PCalls_body Try.func40 (by kernel_rfl) rfl _ Try.ntmps40 (by kernel_rfl) (by kernel_rfl) _ Try.results40 ?_
  simp -dsimp -implicitDefEqProofs (disch := first | omega | assumption | (simp only [Option.isSome_some, Qt0]; done) | (simp only [UInt64.reduceToNat, UInt32.reduceToNat, UInt8.reduceToNat, List.length_cons, List.length_nil, List.length_append, Int.toNat_natCast] <;> omega)) only [Nat.reduceLT, Nat.reduceLeDiff, Nat.reduceEqDiff, ↓reduceIte, Int.reduceLT, Int.reduceLE, Int.reduceToNat, Int.reduceEq, Int.reduceNe, Nat.reduceAdd, UInt8.reduceOfNat, UInt16.reduceOfNat, UInt32.reduceOfNat, UInt64.reduceOfNat, UInt64.reduceToNat, UInt32.reduceToNat, UInt16.reduceToNat, UInt8.reduceToNat, Int.reduceAdd, Int.reduceSub, Int.reduceMul, Nat.reduceMul, Qp0, Ql0, Qe0]
  refine PW_loop (fun n f h' => ∃ (k : Nat) (v : Value), k ≤ s.length ∧ n = s.length - k ∧ f 0 = some (str s) ∧ f 5 = some (.int .i64 k) ∧ f 4 = some v ∧ OwnS h h' 1 v k (wst (nums (s.take k)))) (by kernel_rfl) s.length ⟨0, .slice none 0 0, by omega, by omega, ?_, ?_, ?_, OwnS.nil h 1⟩ ?_
  · simp -dsimp -implicitDefEqProofs (disch := first | omega | assumption | (simp only [Option.isSome_some, Qt0]; done) | (simp only [UInt64.reduceToNat, UInt32.reduceToNat, UInt8.reduceToNat, List.length_cons, List.length_nil, List.length_append, Int.toNat_natCast] <;> omega)) only [Nat.reduceLT, Nat.reduceLeDiff, Nat.reduceEqDiff, ↓reduceIte, Int.reduceLT, Int.reduceLE, Int.reduceToNat, Int.reduceEq, Int.reduceNe, Nat.reduceAdd, UInt8.reduceOfNat, UInt16.reduceOfNat, UInt32.reduceOfNat, UInt64.reduceOfNat, UInt64.reduceToNat, UInt32.reduceToNat, UInt16.reduceToNat, UInt8.reduceToNat, Int.reduceAdd, Int.reduceSub, Int.reduceMul, Nat.reduceMul, Qp0, Ql0, Qe0]
  · simp -dsimp -implicitDefEqProofs (disch := first | omega | assumption | (simp only [Option.isSome_some, Qt0]; done) | (simp only [UInt64.reduceToNat, UInt32.reduceToNat, UInt8.reduceToNat, List.length_cons, List.length_nil, List.length_append, Int.toNat_natCast] <;> omega)) only [Nat.reduceLT, Nat.reduceLeDiff, Nat.reduceEqDiff, ↓reduceIte, Int.reduceLT, Int.reduceLE, Int.reduceToNat, Int.reduceEq, Int.reduceNe, Nat.reduceAdd, UInt8.reduceOfNat, UInt16.reduceOfNat, UInt32.reduceOfNat, UInt64.reduceOfNat, UInt64.reduceToNat, UInt32.reduceToNat, UInt16.reduceToNat, UInt8.reduceToNat, Int.reduceAdd, Int.reduceSub, Int.reduceMul, Nat.reduceMul, Qp0, Ql0, Qe0]
  · simp -dsimp -implicitDefEqProofs (disch := first | omega | assumption | (simp only [Option.isSome_some, Qt0]; done) | (simp only [UInt64.reduceToNat, UInt32.reduceToNat, UInt8.reduceToNat, List.length_cons, List.length_nil, List.length_append, Int.toNat_natCast] <;> omega)) only [Nat.reduceLT, Nat.reduceLeDiff, Nat.reduceEqDiff, ↓reduceIte, Int.reduceLT, Int.reduceLE, Int.reduceToNat, Int.reduceEq, Int.reduceNe, Nat.reduceAdd, UInt8.reduceOfNat, UInt16.reduceOfNat, UInt32.reduceOfNat, UInt64.reduceOfNat, UInt64.reduceToNat, UInt32.reduceToNat, UInt16.reduceToNat, UInt8.reduceToNat, Int.reduceAdd, Int.reduceSub, Int.reduceMul, Nat.reduceMul, Qp0, Ql0, Qe0]
  rintro n f h' ⟨k, v, hk, rfl, h0, h5, h4, how⟩
  by_cases hlt : k < s.length
  · have hn := nums_snoc s k hlt
    obtain ⟨c, hc⟩ : ∃ c, c = s.getD k 0 := ⟨_, rfl⟩
    have hin : c ∈ s := by rw [hc, List.getD, List.getElem?_eq_getElem hlt]; exact List.getElem_mem hlt
    have hcg := hg c hin
    rw [← hc] at hn
    have hcall : PCalls Try.prog w0 59 [str [65, 66, 67, 68, 69, 70, 71, 72, 73, 74, 75, 76, 77, 78, 79, 80, 81, 82, 83, 84, 85, 86, 87, 88, 89, 90, 97, 98, 99, 100, 101, 102, 103, 104, 105, 106, 107, 108, 109, 110, 111, 112, 113, 114, 115, 116, 117, 118, 119, 120, 121, 122, 48, 49, 50, 51, 52, 53, 54, 55, 56, 57, 45, 95], u8 c] h' fun v h2 => v = .int .i64 (idx c) ∧ h2 = h' := index_any letters c w0 h'
    simp -dsimp -implicitDefEqProofs (disch := first | omega | assumption | (simp only [Option.isSome_some, Qt0]; done) | (simp only [UInt64.reduceToNat, UInt32.reduceToNat, UInt8.reduceToNat, List.length_cons, List.length_nil, List.length_append, Int.toNat_natCast] <;> omega)) only [Nat.reduceLT, Nat.reduceLeDiff, Nat.reduceEqDiff, ↓reduceIte, Int.reduceLT, Int.reduceLE, Int.reduceToNat, Int.reduceEq, Int.reduceNe, Nat.reduceAdd, UInt8.reduceOfNat, UInt16.reduceOfNat, UInt32.reduceOfNat, UInt64.reduceOfNat, UInt64.reduceToNat, UInt32.reduceToNat, UInt16.reduceToNat, UInt8.reduceToNat, Int.reduceAdd, Int.reduceSub, Int.reduceMul, Nat.reduceMul, Qp0, Ql0, Qe0, h0, h5, ← hc]
    refine hcall.mono ?_
    rintro u h2 ⟨rfl, rfl⟩
    simp -dsimp -implicitDefEqProofs (disch := first | omega | assumption | (simp only [Option.isSome_some, Qt0]; done) | (simp only [UInt64.reduceToNat, UInt32.reduceToNat, UInt8.reduceToNat, List.length_cons, List.length_nil, List.length_append, Int.toNat_natCast] <;> omega)) only [Nat.reduceLT, Nat.reduceLeDiff, Nat.reduceEqDiff, ↓reduceIte, Int.reduceLT, Int.reduceLE, Int.reduceToNat, Int.reduceEq, Int.reduceNe, Nat.reduceAdd, UInt8.reduceOfNat, UInt16.reduceOfNat, UInt32.reduceOfNat, UInt64.reduceOfNat, UInt64.reduceToNat, UInt32.reduceToNat, UInt16.reduceToNat, UInt8.reduceToNat, Int.reduceAdd, Int.reduceSub, Int.reduceMul, Nat.reduceMul, Qp0, Ql0, Qe0, h0, h5, h4]
    refine Does_one (v := u32 _) el_u32t rfl (by omega) (fun gb hgb => ?_)
    simp -dsimp -implicitDefEqProofs (disch := first | omega | assumption | (simp only [Option.isSome_some, Qt0]; done) | (simp only [UInt64.reduceToNat, UInt32.reduceToNat, UInt8.reduceToNat, List.length_cons, List.length_nil, List.length_append, Int.toNat_natCast] <;> omega)) only [Nat.reduceLT, Nat.reduceLeDiff, Nat.reduceEqDiff, ↓reduceIte, Int.reduceLT, Int.reduceLE, Int.reduceToNat, Int.reduceEq, Int.reduceNe, Nat.reduceAdd, UInt8.reduceOfNat, UInt16.reduceOfNat, UInt32.reduceOfNat, UInt64.reduceOfNat, UInt64.reduceToNat, UInt32.reduceToNat, UInt16.reduceToNat, UInt8.reduceToNat, Int.reduceAdd, Int.reduceSub, Int.reduceMul, Nat.reduceMul, Qp0, Ql0, Qe0, h0, h5, h4]
    refine Does_app el_u32t (how.more ((PH.Le.refl _).new _ _ hgb)).own (Rs.blk (k := ⟨[u32 (UInt32.ofInt (idx c))], 1⟩) (by rw [PH.new_m, if_pos rfl]; rfl) rfl) (wst_one [UInt32.ofInt (idx c)]) (by unfold maxLen; omega) (by omega) (fun v' h3' ho hst => ?_)
    have hou' := (how.more ((PH.Le.refl _).new _ _ hgb)).stays hst ho
    rw [hn] at hou'
    simp -dsimp -implicitDefEqProofs (disch := first | omega | assumption | (simp only [Option.isSome_some, Qt0]; done) | (simp only [UInt64.reduceToNat, UInt32.reduceToNat, UInt8.reduceToNat, List.length_cons, List.length_nil, List.length_append, Int.toNat_natCast] <;> omega)) only [Nat.reduceLT, Nat.reduceLeDiff, Nat.reduceEqDiff, ↓reduceIte, Int.reduceLT, Int.reduceLE, Int.reduceToNat, Int.reduceEq, Int.reduceNe, Nat.reduceAdd, UInt8.reduceOfNat, UInt16.reduceOfNat, UInt32.reduceOfNat, UInt64.reduceOfNat, UInt64.reduceToNat, UInt32.reduceToNat, UInt16.reduceToNat, UInt8.reduceToNat, Int.reduceAdd, Int.reduceSub, Int.reduceMul, Nat.reduceMul, Qp0, Ql0, Qe0, h0, h5, h4]
    refine ⟨_, h3', by omega, PH.Le.refl _, k + 1, v', by omega, rfl, ?_, ?_, ?_, hou'⟩
    · first | rfl | (simp; done)
    · first | rfl | (simp; done)
    · first | rfl | (simp; done)
  · obtain rfl : k = s.length := by omega
    rw [List.take_length] at how
    obtain ⟨A0, c0, rfl, hc0⟩ := how.own.len
    have hNl : (nums s).length = s.length := by simp [nums]
    simp -dsimp -implicitDefEqProofs (disch := first | omega | assumption | (simp only [Option.isSome_some, Qt0]; done) | (simp only [UInt64.reduceToNat, UInt32.reduceToNat, UInt8.reduceToNat, List.length_cons, List.length_nil, List.length_append, Int.toNat_natCast] <;> omega)) only [Nat.reduceLT, Nat.reduceLeDiff, Nat.reduceEqDiff, ↓reduceIte, Int.reduceLT, Int.reduceLE, Int.reduceToNat, Int.reduceEq, Int.reduceNe, Nat.reduceAdd, UInt8.reduceOfNat, UInt16.reduceOfNat, UInt32.reduceOfNat, UInt64.reduceOfNat, UInt64.reduceToNat, UInt32.reduceToNat, UInt16.reduceToNat, UInt8.reduceToNat, Int.reduceAdd, Int.reduceSub, Int.reduceMul, Nat.reduceMul, Qp0, Ql0, Qe0, h0, h5, h4]
    refine PW_loop (fun n f h2 => ∃ (r : List UInt32) (d : List UInt8) (A : Option Addr) (c o : Nat) (u : Value), r.length = n ∧ f 0 = some (str s) ∧ f 4 = some (.slice A r.length c) ∧ f 7 = some u ∧ OwnS h' h2 1 u d.length (bs d) ∧ (decN r).map (d ++ ·) = some out ∧ d.length + r.length ≤ s.length ∧ r.length ≤ c ∧ (0 < r.length → ∃ b lim, A = some ⟨b, o, none⟩ ∧ h'.m b = some ⟨wst (nums s), lim⟩) ∧ (nums s).drop o = r) (by kernel_rfl) s.length
      ⟨nums s, [], A0, c0, 0, .slice none 0 0, hNl, ?_, ?_, ?_, OwnS.nil h' 1, by rw [hd]; rfl, by rw [hNl]; simp, by rw [hNl]; exact hc0, ?_, rfl⟩ ?_
    · simp -dsimp -implicitDefEqProofs (disch := first | omega | assumption | (simp only [Option.isSome_some, Qt0]; done) | (simp only [UInt64.reduceToNat, UInt32.reduceToNat, UInt8.reduceToNat, List.length_cons, List.length_nil, List.length_append, Int.toNat_natCast] <;> omega)) only [Nat.reduceLT, Nat.reduceLeDiff, Nat.reduceEqDiff, ↓reduceIte, Int.reduceLT, Int.reduceLE, Int.reduceToNat, Int.reduceEq, Int.reduceNe, Nat.reduceAdd, UInt8.reduceOfNat, UInt16.reduceOfNat, UInt32.reduceOfNat, UInt64.reduceOfNat, UInt64.reduceToNat, UInt32.reduceToNat, UInt16.reduceToNat, UInt8.reduceToNat, Int.reduceAdd, Int.reduceSub, Int.reduceMul, Nat.reduceMul, Qp0, Ql0, Qe0, h0]
    · simp -dsimp -implicitDefEqProofs (disch := first | omega | assumption | (simp only [Option.isSome_some, Qt0]; done) | (simp only [UInt64.reduceToNat, UInt32.reduceToNat, UInt8.reduceToNat, List.length_cons, List.length_nil, List.length_append, Int.toNat_natCast] <;> omega)) only [Nat.reduceLT, Nat.reduceLeDiff, Nat.reduceEqDiff, ↓reduceIte, Int.reduceLT, Int.reduceLE, Int.reduceToNat, Int.reduceEq, Int.reduceNe, Nat.reduceAdd, UInt8.reduceOfNat, UInt16.reduceOfNat, UInt32.reduceOfNat, UInt64.reduceOfNat, UInt64.reduceToNat, UInt32.reduceToNat, UInt16.reduceToNat, UInt8.reduceToNat, Int.reduceAdd, Int.reduceSub, Int.reduceMul, Nat.reduceMul, Qp0, Ql0, Qe0, h4, hNl]
    · simp -dsimp -implicitDefEqProofs (disch := first | omega | assumption | (simp only [Option.isSome_some, Qt0]; done) | (simp only [UInt64.reduceToNat, UInt32.reduceToNat, UInt8.reduceToNat, List.length_cons, List.length_nil, List.length_append, Int.toNat_natCast] <;> omega)) only [Nat.reduceLT, Nat.reduceLeDiff, Nat.reduceEqDiff, ↓reduceIte, Int.reduceLT, Int.reduceLE, Int.reduceToNat, Int.reduceEq, Int.reduceNe, Nat.reduceAdd, UInt8.reduceOfNat, UInt16.reduceOfNat, UInt32.reduceOfNat, UInt64.reduceOfNat, UInt64.reduceToNat, UInt32.reduceToNat, UInt16.reduceToNat, UInt8.reduceToNat, Int.reduceAdd, Int.reduceSub, Int.reduceMul, Nat.reduceMul, Qp0, Ql0, Qe0]
    · intro hp
      obtain ⟨b, c, e, _, hb⟩ := how.own.pos (by rw [hNl] at hp; exact hp)
      injection e with e1 e2 e3
      exact ⟨b, _, e1, hb⟩
    rintro n f2 h2 ⟨r, d, A, c, o, u, rfl, g0, g4, g7, hou, hdec, hbd, hrc, hA, hdr⟩
    rcases r with _ | ⟨a, _ | ⟨x, _ | ⟨y, _ | ⟨z, t⟩⟩⟩⟩
    · have hout : out = d := by simpa [decN] using hdec.symm
      obtain ⟨A7, c7, rfl, _⟩ := hou.own.len
      simp -dsimp -implicitDefEqProofs (disch := first | omega | assumption | (simp only [Option.isSome_some, Qt0]; done) | (simp only [UInt64.reduceToNat, UInt32.reduceToNat, UInt8.reduceToNat, List.length_cons, List.length_nil, List.length_append, Int.toNat_natCast] <;> omega)) only [Nat.reduceLT, Nat.reduceLeDiff, Nat.reduceEqDiff, ↓reduceIte, Int.reduceLT, Int.reduceLE, Int.reduceToNat, Int.reduceEq, Int.reduceNe, Nat.reduceAdd, UInt8.reduceOfNat, UInt16.reduceOfNat, UInt32.reduceOfNat, UInt64.reduceOfNat, UInt64.reduceToNat, UInt32.reduceToNat, UInt16.reduceToNat, UInt8.reduceToNat, Int.reduceAdd, Int.reduceSub, Int.reduceMul, Nat.reduceMul, Qp0, Ql0, Qe0, g0, g4, g7]
      refine vtext_own Try.underlying49 Try.underlying5 Try.underlying9 (Rs.own hou.own) ?_ ?_
      · rintro rfl; rcases hou.own.2 with ⟨_, h1⟩ | ⟨b, c', h1, _⟩
        · exact h1
        · cases h1
      · simp -dsimp -implicitDefEqProofs (disch := first | omega | assumption | (simp only [Option.isSome_some, Qt0]; done) | (simp only [UInt64.reduceToNat, UInt32.reduceToNat, UInt8.reduceToNat, List.length_cons, List.length_nil, List.length_append, Int.toNat_natCast] <;> omega)) only [Nat.reduceLT, Nat.reduceLeDiff, Nat.reduceEqDiff, ↓reduceIte, Int.reduceLT, Int.reduceLE, Int.reduceToNat, Int.reduceEq, Int.reduceNe, Nat.reduceAdd, UInt8.reduceOfNat, UInt16.reduceOfNat, UInt32.reduceOfNat, UInt64.reduceOfNat, UInt64.reduceToNat, UInt32.reduceToNat, UInt16.reduceToNat, UInt8.reduceToNat, Int.reduceAdd, Int.reduceSub, Int.reduceMul, Nat.reduceMul, Qp0, Ql0, Qe0]
        exact ⟨_, how.le.trans hou.le, by rw [hout], rfl⟩
    · simp [decN] at hdec
    · have hif : x &&& 15 = 0 := by
        by_cases hz : x &&& 15 = 0
        · exact hz
        · simp [decN, hz] at hdec
      have hout : out = d ++ [two a x] := by simpa [decN, hif] using hdec.symm
      obtain ⟨b, lim, rfl, hb⟩ := hA (by simp)
      have R : ∀ hh, PH.Le h' hh → ∀ {j : Nat} {v : UInt32}, [a, x][j]? = some v → rd w0 hh ⟨b, o + j, none⟩ = some (u32 v) := fun hh hl j v hv => rd_ws (hl.m b _ hb) hdr hv
      have r0 : rd w0 h' ⟨b, o, none⟩ = some (u32 a) := R h' (PH.Le.refl _) (j := 0) rfl
      have r1 : rd w0 h' ⟨b, o + 1, none⟩ = some (u32 x) := R h' (PH.Le.refl _) (j := 1) rfl
      simp -dsimp -implicitDefEqProofs (disch := first | omega | assumption | (simp only [Option.isSome_some, Qt0]; done) | (simp only [UInt64.reduceToNat, UInt32.reduceToNat, UInt8.reduceToNat, List.length_cons, List.length_nil, List.length_append, Int.toNat_natCast] <;> omega)) only [Nat.reduceLT, Nat.reduceLeDiff, Nat.reduceEqDiff, ↓reduceIte, Int.reduceLT, Int.reduceLE, Int.reduceToNat, Int.reduceEq, Int.reduceNe, Nat.reduceAdd, UInt8.reduceOfNat, UInt16.reduceOfNat, UInt32.reduceOfNat, UInt64.reduceOfNat, UInt64.reduceToNat, UInt32.reduceToNat, UInt16.reduceToNat, UInt8.reduceToNat, Int.reduceAdd, Int.reduceSub, Int.reduceMul, Nat.reduceMul, Qp0, Ql0, Qe0, g0, g4, g7]
      refine PW_drawn 11 h' (by kernel_rfl) (by kernel_rfl) (by kernel_rfl) (by kernel_rfl) (by kernel_rfl) (fun c f h hq => by simp only [thenC_panic, thenK_panic, inBlk_panic, thenN_panic, vcRet_panic] at hq) hou.le.sub ?_
      simp -dsimp -implicitDefEqProofs (disch := first | omega | assumption | (simp only [Option.isSome_some, Qt0]; done) | (simp only [UInt64.reduceToNat, UInt32.reduceToNat, UInt8.reduceToNat, List.length_cons, List.length_nil, List.length_append, Int.toNat_natCast] <;> omega)) only [Nat.reduceLT, Nat.reduceLeDiff, Nat.reduceEqDiff, ↓reduceIte, Int.reduceLT, Int.reduceLE, Int.reduceToNat, Int.reduceEq, Int.reduceNe, Nat.reduceAdd, UInt8.reduceOfNat, UInt16.reduceOfNat, UInt32.reduceOfNat, UInt64.reduceOfNat, UInt64.reduceToNat, UInt32.reduceToNat, UInt16.reduceToNat, UInt8.reduceToNat, Int.reduceAdd, Int.reduceSub, Int.reduceMul, Nat.reduceMul, Qp0, Ql0, Qe0, g0, g4, g7, r0, r1]
      refine Does_cells (vs := bs [two a x]) el_u8d rfl (by omega) (by omega) (fill1 _) (fun gb hgb => ?_)
      simp -dsimp -implicitDefEqProofs (disch := first | omega | assumption | (simp only [Option.isSome_some, Qt0]; done) | (simp only [UInt64.reduceToNat, UInt32.reduceToNat, UInt8.reduceToNat, List.length_cons, List.length_nil, List.length_append, Int.toNat_natCast] <;> omega)) only [Nat.reduceLT, Nat.reduceLeDiff, Nat.reduceEqDiff, ↓reduceIte, Int.reduceLT, Int.reduceLE, Int.reduceToNat, Int.reduceEq, Int.reduceNe, Nat.reduceAdd, UInt8.reduceOfNat, UInt16.reduceOfNat, UInt32.reduceOfNat, UInt64.reduceOfNat, UInt64.reduceToNat, UInt32.reduceToNat, UInt16.reduceToNat, UInt8.reduceToNat, Int.reduceAdd, Int.reduceSub, Int.reduceMul, Nat.reduceMul, Qp0, Ql0, Qe0, g0, g4, g7]
      refine ⟨(hou.le.new _ _ (Nat.le_trans hou.le.top hgb)).sub, ?_⟩
      simp -dsimp -implicitDefEqProofs (disch := first | omega | assumption | (simp only [Option.isSome_some, Qt0]; done) | (simp only [UInt64.reduceToNat, UInt32.reduceToNat, UInt8.reduceToNat, List.length_cons, List.length_nil, List.length_append, Int.toNat_natCast] <;> omega)) only [Nat.reduceLT, Nat.reduceLeDiff, Nat.reduceEqDiff, ↓reduceIte, Int.reduceLT, Int.reduceLE, Int.reduceToNat, Int.reduceEq, Int.reduceNe, Nat.reduceAdd, UInt8.reduceOfNat, UInt16.reduceOfNat, UInt32.reduceOfNat, UInt64.reduceOfNat, UInt64.reduceToNat, UInt32.reduceToNat, UInt16.reduceToNat, UInt8.reduceToNat, Int.reduceAdd, Int.reduceSub, Int.reduceMul, Nat.reduceMul, Qp0, Ql0, Qe0, g0, g4, g7]
      refine Does_app el_u8d (hou.more ((PH.Le.refl _).new _ _ hgb)).own (Rs.blk (k := ⟨bs [two a x], 1⟩) (by rw [PH.new_m, if_pos rfl]) rfl) (bs_one _) (by simp at hbd; unfold maxLen; omega) (by simp at hbd; omega) (fun v' h3' ho hst => ?_)
      have hou' := (hou.more ((PH.Le.refl _).new _ _ hgb)).stays hst ho
      rw [← bs_append] at hou'
      simp -dsimp -implicitDefEqProofs (disch := first | omega | assumption | (simp only [Option.isSome_some, Qt0]; done) | (simp only [UInt64.reduceToNat, UInt32.reduceToNat, UInt8.reduceToNat, List.length_cons, List.length_nil, List.length_append, Int.toNat_natCast] <;> omega)) only [Nat.reduceLT, Nat.reduceLeDiff, Nat.reduceEqDiff, ↓reduceIte, Int.reduceLT, Int.reduceLE, Int.reduceToNat, Int.reduceEq, Int.reduceNe, Nat.reduceAdd, UInt8.reduceOfNat, UInt16.reduceOfNat, UInt32.reduceOfNat, UInt64.reduceOfNat, UInt64.reduceToNat, UInt32.reduceToNat, UInt16.reduceToNat, UInt8.reduceToNat, Int.reduceAdd, Int.reduceSub, Int.reduceMul, Nat.reduceMul, Qp0, Ql0, Qe0, g0, g4, g7]
      refine ⟨hou'.le.sub, ?_⟩
      have q1 : rd w0 h3' ⟨b, o + 1, none⟩ = some (u32 x) := R h3' hou'.le (j := 1) rfl
      obtain ⟨A7, c7, rfl, _⟩ := hou'.own.len
      simp -dsimp -implicitDefEqProofs (disch := first | omega | assumption | (simp only [Option.isSome_some, Qt0]; done) | (simp only [UInt64.reduceToNat, UInt32.reduceToNat, UInt8.reduceToNat, List.length_cons, List.length_nil, List.length_append, Int.toNat_natCast] <;> omega)) only [Nat.reduceLT, Nat.reduceLeDiff, Nat.reduceEqDiff, ↓reduceIte, Int.reduceLT, Int.reduceLE, Int.reduceToNat, Int.reduceEq, Int.reduceNe, Nat.reduceAdd, UInt8.reduceOfNat, UInt16.reduceOfNat, UInt32.reduceOfNat, UInt64.reduceOfNat, UInt64.reduceToNat, UInt32.reduceToNat, UInt16.reduceToNat, UInt8.reduceToNat, Int.reduceAdd, Int.reduceSub, Int.reduceMul, Nat.reduceMul, Qp0, Ql0, Qe0, g0, g4, g7, q1, hif]
      refine vtext_own Try.underlying49 Try.underlying5 Try.underlying9 (Rs.own (by simpa using hou'.own)) ?_ ?_
      · rintro rfl; rcases hou'.own.2 with ⟨_, h1⟩ | ⟨b, c', h1, _⟩
        · exact h1
        · cases h1
      · simp -dsimp -implicitDefEqProofs (disch := first | omega | assumption | (simp only [Option.isSome_some, Qt0]; done) | (simp only [UInt64.reduceToNat, UInt32.reduceToNat, UInt8.reduceToNat, List.length_cons, List.length_nil, List.length_append, Int.toNat_natCast] <;> omega)) only [Nat.reduceLT, Nat.reduceLeDiff, Nat.reduceEqDiff, ↓reduceIte, Int.reduceLT, Int.reduceLE, Int.reduceToNat, Int.reduceEq, Int.reduceNe, Nat.reduceAdd, UInt8.reduceOfNat, UInt16.reduceOfNat, UInt32.reduceOfNat, UInt64.reduceOfNat, UInt64.reduceToNat, UInt32.reduceToNat, UInt16.reduceToNat, UInt8.reduceToNat, Int.reduceAdd, Int.reduceSub, Int.reduceMul, Nat.reduceMul, Qp0, Ql0, Qe0]
        exact ⟨_, how.le.trans hou'.le, by rw [hout], rfl⟩
    · have hif : y &&& 3 = 0 := by
        by_cases hz : y &&& 3 = 0
        · exact hz
        · simp [decN, hz] at hdec
      have hout : out = d ++ [two a x, three x y] := by simpa [decN, hif] using hdec.symm
      obtain ⟨b, lim, rfl, hb⟩ := hA (by simp)
      have R : ∀ hh, PH.Le h' hh → ∀ {j : Nat} {v : UInt32}, [a, x, y][j]? = some v → rd w0 hh ⟨b, o + j, none⟩ = some (u32 v) := fun hh hl j v hv => rd_ws (hl.m b _ hb) hdr hv
      have r0 : rd w0 h' ⟨b, o, none⟩ = some (u32 a) := R h' (PH.Le.refl _) (j := 0) rfl
      have r1 : rd w0 h' ⟨b, o + 1, none⟩ = some (u32 x) := R h' (PH.Le.refl _) (j := 1) rfl
      have r2 : rd w0 h' ⟨b, o + 2, none⟩ = some (u32 y) := R h' (PH.Le.refl _) (j := 2) rfl
      simp -dsimp -implicitDefEqProofs (disch := first | omega | assumption | (simp only [Option.isSome_some, Qt0]; done) | (simp only [UInt64.reduceToNat, UInt32.reduceToNat, UInt8.reduceToNat, List.length_cons, List.length_nil, List.length_append, Int.toNat_natCast] <;> omega)) only [Nat.reduceLT, Nat.reduceLeDiff, Nat.reduceEqDiff, ↓reduceIte, Int.reduceLT, Int.reduceLE, Int.reduceToNat, Int.reduceEq, Int.reduceNe, Nat.reduceAdd, UInt8.reduceOfNat, UInt16.reduceOfNat, UInt32.reduceOfNat, UInt64.reduceOfNat, UInt64.reduceToNat, UInt32.reduceToNat, UInt16.reduceToNat, UInt8.reduceToNat, Int.reduceAdd, Int.reduceSub, Int.reduceMul, Nat.reduceMul, Qp0, Ql0, Qe0, g0, g4, g7]
      refine PW_drawn 21 h' (by kernel_rfl) (by kernel_rfl) (by kernel_rfl) (by kernel_rfl) (by kernel_rfl) (fun c f h hq => by simp only [thenC_panic, thenK_panic, inBlk_panic, thenN_panic, vcRet_panic] at hq) hou.le.sub ?_
      simp -dsimp -implicitDefEqProofs (disch := first | omega | assumption | (simp only [Option.isSome_some, Qt0]; done) | (simp only [UInt64.reduceToNat, UInt32.reduceToNat, UInt8.reduceToNat, List.length_cons, List.length_nil, List.length_append, Int.toNat_natCast] <;> omega)) only [Nat.reduceLT, Nat.reduceLeDiff, Nat.reduceEqDiff, ↓reduceIte, Int.reduceLT, Int.reduceLE, Int.reduceToNat, Int.reduceEq, Int.reduceNe, Nat.reduceAdd, UInt8.reduceOfNat, UInt16.reduceOfNat, UInt32.reduceOfNat, UInt64.reduceOfNat, UInt64.reduceToNat, UInt32.reduceToNat, UInt16.reduceToNat, UInt8.reduceToNat, Int.reduceAdd, Int.reduceSub, Int.reduceMul, Nat.reduceMul, Qp0, Ql0, Qe0, g0, g4, g7, r0, r1, r2]
      refine Does_cells (vs := bs [two a x, three x y]) el_u8d rfl (by omega) (by omega) (fill2 _ _) (fun gb hgb => ?_)
      simp -dsimp -implicitDefEqProofs (disch := first | omega | assumption | (simp only [Option.isSome_some, Qt0]; done) | (simp only [UInt64.reduceToNat, UInt32.reduceToNat, UInt8.reduceToNat, List.length_cons, List.length_nil, List.length_append, Int.toNat_natCast] <;> omega)) only [Nat.reduceLT, Nat.reduceLeDiff, Nat.reduceEqDiff, ↓reduceIte, Int.reduceLT, Int.reduceLE, Int.reduceToNat, Int.reduceEq, Int.reduceNe, Nat.reduceAdd, UInt8.reduceOfNat, UInt16.reduceOfNat, UInt32.reduceOfNat, UInt64.reduceOfNat, UInt64.reduceToNat, UInt32.reduceToNat, UInt16.reduceToNat, UInt8.reduceToNat, Int.reduceAdd, Int.reduceSub, Int.reduceMul, Nat.reduceMul, Qp0, Ql0, Qe0, g0, g4, g7]
      refine ⟨(hou.le.new _ _ (Nat.le_trans hou.le.top hgb)).sub, ?_⟩
      simp -dsimp -implicitDefEqProofs (disch := first | omega | assumption | (simp only [Option.isSome_some, Qt0]; done) | (simp only [UInt64.reduceToNat, UInt32.reduceToNat, UInt8.reduceToNat, List.length_cons, List.length_nil, List.length_append, Int.toNat_natCast] <;> omega)) only [Nat.reduceLT, Nat.reduceLeDiff, Nat.reduceEqDiff, ↓reduceIte, Int.reduceLT, Int.reduceLE, Int.reduceToNat, Int.reduceEq, Int.reduceNe, Nat.reduceAdd, UInt8.reduceOfNat, UInt16.reduceOfNat, UInt32.reduceOfNat, UInt64.reduceOfNat, UInt64.reduceToNat, UInt32.reduceToNat, UInt16.reduceToNat, UInt8.reduceToNat, Int.reduceAdd, Int.reduceSub, Int.reduceMul, Nat.reduceMul, Qp0, Ql0, Qe0, g0, g4, g7]
      refine Does_app el_u8d (hou.more ((PH.Le.refl _).new _ _ hgb)).own (Rs.blk (k := ⟨bs [two a x, three x y], 2⟩) (by rw [PH.new_m, if_pos rfl]) rfl) (bs_one _) (by simp at hbd; unfold maxLen; omega) (by simp at hbd; omega) (fun v' h3' ho hst => ?_)
      have hou' := (hou.more ((PH.Le.refl _).new _ _ hgb)).stays hst ho
      rw [← bs_append] at hou'
      simp -dsimp -implicitDefEqProofs (disch := first | omega | assumption | (simp only [Option.isSome_some, Qt0]; done) | (simp only [UInt64.reduceToNat, UInt32.reduceToNat, UInt8.reduceToNat, List.length_cons, List.length_nil, List.length_append, Int.toNat_natCast] <;> omega)) only [Nat.reduceLT, Nat.reduceLeDiff, Nat.reduceEqDiff, ↓reduceIte, Int.reduceLT, Int.reduceLE, Int.reduceToNat, Int.reduceEq, Int.reduceNe, Nat.reduceAdd, UInt8.reduceOfNat, UInt16.reduceOfNat, UInt32.reduceOfNat, UInt64.reduceOfNat, UInt64.reduceToNat, UInt32.reduceToNat, UInt16.reduceToNat, UInt8.reduceToNat, Int.reduceAdd, Int.reduceSub, Int.reduceMul, Nat.reduceMul, Qp0, Ql0, Qe0, g0, g4, g7]
      refine ⟨hou'.le.sub, ?_⟩
      have q2 : rd w0 h3' ⟨b, o + 2, none⟩ = some (u32 y) := R h3' hou'.le (j := 2) rfl
      obtain ⟨A7, c7, rfl, _⟩ := hou'.own.len
      simp -dsimp -implicitDefEqProofs (disch := first | omega | assumption | (simp only [Option.isSome_some, Qt0]; done) | (simp only [UInt64.reduceToNat, UInt32.reduceToNat, UInt8.reduceToNat, List.length_cons, List.length_nil, List.length_append, Int.toNat_natCast] <;> omega)) only [Nat.reduceLT, Nat.reduceLeDiff, Nat.reduceEqDiff, ↓reduceIte, Int.reduceLT, Int.reduceLE, Int.reduceToNat, Int.reduceEq, Int.reduceNe, Nat.reduceAdd, UInt8.reduceOfNat, UInt16.reduceOfNat, UInt32.reduceOfNat, UInt64.reduceOfNat, UInt64.reduceToNat, UInt32.reduceToNat, UInt16.reduceToNat, UInt8.reduceToNat, Int.reduceAdd, Int.reduceSub, Int.reduceMul, Nat.reduceMul, Qp0, Ql0, Qe0, g0, g4, g7, q2, hif]
      refine vtext_own Try.underlying49 Try.underlying5 Try.underlying9 (Rs.own (by simpa using hou'.own)) ?_ ?_
      · rintro rfl; rcases hou'.own.2 with ⟨_, h1⟩ | ⟨b, c', h1, _⟩
        · exact h1
        · cases h1
      · simp -dsimp -implicitDefEqProofs (disch := first | omega | assumption | (simp only [Option.isSome_some, Qt0]; done) | (simp only [UInt64.reduceToNat, UInt32.reduceToNat, UInt8.reduceToNat, List.length_cons, List.length_nil, List.length_append, Int.toNat_natCast] <;> omega)) only [Nat.reduceLT, Nat.reduceLeDiff, Nat.reduceEqDiff, ↓reduceIte, Int.reduceLT, Int.reduceLE, Int.reduceToNat, Int.reduceEq, Int.reduceNe, Nat.reduceAdd, UInt8.reduceOfNat, UInt16.reduceOfNat, UInt32.reduceOfNat, UInt64.reduceOfNat, UInt64.reduceToNat, UInt32.reduceToNat, UInt16.reduceToNat, UInt8.reduceToNat, Int.reduceAdd, Int.reduceSub, Int.reduceMul, Nat.reduceMul, Qp0, Ql0, Qe0]
        exact ⟨_, how.le.trans hou'.le, by rw [hout], rfl⟩
    · obtain ⟨b, lim, rfl, hb⟩ := hA (by simp)
      have R : ∀ hh, PH.Le h' hh → ∀ {j : Nat} {v : UInt32}, (a :: x :: y :: z :: t)[j]? = some v → rd w0 hh ⟨b, o + j, none⟩ = some (u32 v) := fun hh hl j v hv => rd_ws (hl.m b _ hb) hdr hv
      have r0 : rd w0 h' ⟨b, o, none⟩ = some (u32 a) := R h' (PH.Le.refl _) (j := 0) rfl
      have r1 : rd w0 h' ⟨b, o + 1, none⟩ = some (u32 x) := R h' (PH.Le.refl _) (j := 1) rfl
      have r2 : rd w0 h' ⟨b, o + 2, none⟩ = some (u32 y) := R h' (PH.Le.refl _) (j := 2) rfl
      have r3 : rd w0 h' ⟨b, o + 3, none⟩ = some (u32 z) := R h' (PH.Le.refl _) (j := 3) rfl
      simp -dsimp -implicitDefEqProofs (disch := first | omega | assumption | (simp only [Option.isSome_some, Qt0]; done) | (simp only [UInt64.reduceToNat, UInt32.reduceToNat, UInt8.reduceToNat, List.length_cons, List.length_nil, List.length_append, Int.toNat_natCast] <;> omega)) only [Nat.reduceLT, Nat.reduceLeDiff, Nat.reduceEqDiff, ↓reduceIte, Int.reduceLT, Int.reduceLE, Int.reduceToNat, Int.reduceEq, Int.reduceNe, Nat.reduceAdd, UInt8.reduceOfNat, UInt16.reduceOfNat, UInt32.reduceOfNat, UInt64.reduceOfNat, UInt64.reduceToNat, UInt32.reduceToNat, UInt16.reduceToNat, UInt8.reduceToNat, Int.reduceAdd, Int.reduceSub, Int.reduceMul, Nat.reduceMul, Qp0, Ql0, Qe0, g0, g4, g7]
      refine PW_drawn 19 h' (by kernel_rfl) (by kernel_rfl) (by kernel_rfl) (by kernel_rfl) (by kernel_rfl) (fun c f h hq => by simp only [thenC_panic, thenK_panic, inBlk_panic, thenN_panic, vcRet_panic] at hq) hou.le.sub ?_
      simp -dsimp -implicitDefEqProofs (disch := first | omega | assumption | (simp only [Option.isSome_some, Qt0]; done) | (simp only [UInt64.reduceToNat, UInt32.reduceToNat, UInt8.reduceToNat, List.length_cons, List.length_nil, List.length_append, Int.toNat_natCast] <;> omega)) only [Nat.reduceLT, Nat.reduceLeDiff, Nat.reduceEqDiff, ↓reduceIte, Int.reduceLT, Int.reduceLE, Int.reduceToNat, Int.reduceEq, Int.reduceNe, Nat.reduceAdd, UInt8.reduceOfNat, UInt16.reduceOfNat, UInt32.reduceOfNat, UInt64.reduceOfNat, UInt64.reduceToNat, UInt32.reduceToNat, UInt16.reduceToNat, UInt8.reduceToNat, Int.reduceAdd, Int.reduceSub, Int.reduceMul, Nat.reduceMul, Qp0, Ql0, Qe0, g0, g4, g7, r0, r1, r2, r3]
      refine Does_cells (vs := bs [(four a x y z >>> 16).toUInt8, (four a x y z >>> 8).toUInt8, (four a x y z).toUInt8]) el_u8d rfl (by omega) (by omega) (fill3 _ _ _) (fun gb hgb => ?_)
      simp -dsimp -implicitDefEqProofs (disch := first | omega | assumption | (simp only [Option.isSome_some, Qt0]; done) | (simp only [UInt64.reduceToNat, UInt32.reduceToNat, UInt8.reduceToNat, List.length_cons, List.length_nil, List.length_append, Int.toNat_natCast] <;> omega)) only [Nat.reduceLT, Nat.reduceLeDiff, Nat.reduceEqDiff, ↓reduceIte, Int.reduceLT, Int.reduceLE, Int.reduceToNat, Int.reduceEq, Int.reduceNe, Nat.reduceAdd, UInt8.reduceOfNat, UInt16.reduceOfNat, UInt32.reduceOfNat, UInt64.reduceOfNat, UInt64.reduceToNat, UInt32.reduceToNat, UInt16.reduceToNat, UInt8.reduceToNat, Int.reduceAdd, Int.reduceSub, Int.reduceMul, Nat.reduceMul, Qp0, Ql0, Qe0, g0, g4, g7]
      refine Does_app el_u8d (hou.more ((PH.Le.refl _).new _ _ hgb)).own (Rs.blk (k := ⟨bs [(four a x y z >>> 16).toUInt8, (four a x y z >>> 8).toUInt8, (four a x y z).toUInt8], 3⟩) (by rw [PH.new_m, if_pos rfl]) rfl) (bs_one _) (by simp at hbd; unfold maxLen; omega) (by simp at hbd; omega) (fun v' h3' ho hst => ?_)
      have hou' := (hou.more ((PH.Le.refl _).new _ _ hgb)).stays hst ho
      rw [← bs_append] at hou'
      simp -dsimp -implicitDefEqProofs (disch := first | omega | assumption | (simp only [Option.isSome_some, Qt0]; done) | (simp only [UInt64.reduceToNat, UInt32.reduceToNat, UInt8.reduceToNat, List.length_cons, List.length_nil, List.length_append, Int.toNat_natCast] <;> omega)) only [Nat.reduceLT, Nat.reduceLeDiff, Nat.reduceEqDiff, ↓reduceIte, Int.reduceLT, Int.reduceLE, Int.reduceToNat, Int.reduceEq, Int.reduceNe, Nat.reduceAdd, UInt8.reduceOfNat, UInt16.reduceOfNat, UInt32.reduceOfNat, UInt64.reduceOfNat, UInt64.reduceToNat, UInt32.reduceToNat, UInt16.reduceToNat, UInt8.reduceToNat, Int.reduceAdd, Int.reduceSub, Int.reduceMul, Nat.reduceMul, Qp0, Ql0, Qe0, g0, g4, g7]
      refine ⟨t.length, h3', by omega, PH.Le.refl _, t, d ++ [(four a x y z >>> 16).toUInt8, (four a x y z >>> 8).toUInt8, (four a x y z).toUInt8], cutAt b o 4 (decide (c = 4)), c - 4, o + 4, v', rfl, ?_, ?_, ?_, by simpa using hou', dec_split hdec, by simp at hbd ⊢; omega, by simp at hrc; omega, ?_, ?_⟩
      · first | rfl | (simp; done)
      · first | rfl | (simp; done)
      · first | rfl | (simp; done)
      · intro hp
        refine ⟨b, lim, ?_, hb⟩
        have : ¬ c = 4 := by simp at hrc; omega
        simp [cutAt, this]
      · have := congrArg (List.drop 4) hdr
        simpa [List.drop_drop, Nat.add_comm] using this
end Go.Proofs.Ytdlaoeepeakpeaa


/- Walk of text.Dec where the letters are wrong: the error and its place. -/
namespace Go.Proofs.Ytdlaoeepeakpeaa
set_option linter.unusedVariables false
set_option linter.unusedSimpArgs false
open Go.RowKit Px Tx
def textT : List UInt8 := [116, 101, 120, 116]
set_option maxRecDepth 20000 in
theorem tbad_any (a : Int) (w0 : World) (h : PH) : PCalls Try.prog w0 60 [.int .i64 a] h fun r h' => ∃ b, r = errV b ∧ h.top ≤ b ∧ h' = h.new b ⟨[str textT, .int .i64 a, codeV 2], 3⟩ := by
  refine PCalls_body Try.func60 (by kernel_rfl) rfl _ Try.ntmps60 (by kernel_rfl) (by kernel_rfl) _ Try.results60 ?_
  have hE := Lib.hid (@at_any textT a 43 (.int .i64 2) w0 h)
  unfold textT at hE ⊢
  simp -dsimp -implicitDefEqProofs (disch := first | omega | assumption | (simp only [Option.isSome_some, Qt0]; done) | (simp only [UInt64.reduceToNat, UInt32.reduceToNat, UInt8.reduceToNat, List.length_cons, List.length_nil, List.length_append, Int.toNat_natCast] <;> omega)) only [Nat.reduceLT, Nat.reduceLeDiff, Nat.reduceEqDiff, ↓reduceIte, Int.reduceLT, Int.reduceLE, Int.reduceToNat, Int.reduceEq, Int.reduceNe, Nat.reduceAdd, UInt8.reduceOfNat, UInt16.reduceOfNat, UInt32.reduceOfNat, UInt64.reduceOfNat, UInt64.reduceToNat, UInt32.reduceToNat, UInt16.reduceToNat, UInt8.reduceToNat, Int.reduceAdd, Int.reduceSub, Int.reduceMul, Nat.reduceMul, Qp0, Ql0, Qe0]
  refine hE.out.mono ?_
  rintro v h1 ⟨b, rfl, hb, rfl⟩
  simp -dsimp -implicitDefEqProofs (disch := first | omega | assumption | (simp only [Option.isSome_some, Qt0]; done) | (simp only [UInt64.reduceToNat, UInt32.reduceToNat, UInt8.reduceToNat, List.length_cons, List.length_nil, List.length_append, Int.toNat_natCast] <;> omega)) only [Nat.reduceLT, Nat.reduceLeDiff, Nat.reduceEqDiff, ↓reduceIte, Int.reduceLT, Int.reduceLE, Int.reduceToNat, Int.reduceEq, Int.reduceNe, Nat.reduceAdd, UInt8.reduceOfNat, UInt16.reduceOfNat, UInt32.reduceOfNat, UInt64.reduceOfNat, UInt64.reduceToNat, UInt32.reduceToNat, UInt16.reduceToNat, UInt8.reduceToNat, Int.reduceAdd, Int.reduceSub, Int.reduceMul, Nat.reduceMul, Qp0, Ql0, Qe0]
  exact ⟨_, PH.Le.refl _, b, rfl, hb, rfl⟩
/-- Where letters are wrong that are letters all. -/
def decEnd (s : List UInt8) : Int := if s.length % 4 = 1 then s.length else s.length - 1
set_option maxRecDepth 20000 in
set_option maxHeartbeats 4000000 in
theorem dec_bad1 (s : List UInt8) (q : Nat) (hq : q < s.length) (w0 : World) (h : PH) (hs : s.length ≤ 4000000) (hg : ∀ j, j < q → 0 ≤ idx (s.getD j 0)) (hb : idx (s.getD q 0) < 0) :
    PCalls Try.prog w0 40 [str s] h fun v h' => ∃ be, v = .tuple #[str [], errV be] ∧ h.top ≤ be ∧ h' = h.new be ⟨[str textT, .int .i64 q, codeV 2], 3⟩ := by
  refine PCalls_body Try.func40 (by kernel_rfl) rfl _ Try.ntmps40 (by kernel_rfl) (by kernel_rfl) _ Try.results40 ?_
  simp -dsimp -implicitDefEqProofs (disch := first | omega | assumption | (simp only [Option.isSome_some, Qt0]; done) | (simp only [UInt64.reduceToNat, UInt32.reduceToNat, UInt8.reduceToNat, List.length_cons, List.length_nil, List.length_append, Int.toNat_natCast] <;> omega)) only [Nat.reduceLT, Nat.reduceLeDiff, Nat.reduceEqDiff, ↓reduceIte, Int.reduceLT, Int.reduceLE, Int.reduceToNat, Int.reduceEq, Int.reduceNe, Nat.reduceAdd, UInt8.reduceOfNat, UInt16.reduceOfNat, UInt32.reduceOfNat, UInt64.reduceOfNat, UInt64.reduceToNat, UInt32.reduceToNat, UInt16.reduceToNat, UInt8.reduceToNat, Int.reduceAdd, Int.reduceSub, Int.reduceMul, Nat.reduceMul, Qp0, Ql0, Qe0]
  refine PW_loop (fun n f h' => ∃ (k : Nat) (v : Value), k ≤ q ∧ n = q - k ∧ f 0 = some (str s) ∧ f 5 = some (.int .i64 k) ∧ f 4 = some v ∧ OwnS h h' 1 v k (wst (nums (s.take k)))) (by kernel_rfl) q ⟨0, .slice none 0 0, by omega, by omega, ?_, ?_, ?_, OwnS.nil h 1⟩ ?_
  · simp -dsimp -implicitDefEqProofs (disch := first | omega | assumption | (simp only [Option.isSome_some, Qt0]; done) | (simp only [UInt64.reduceToNat, UInt32.reduceToNat, UInt8.reduceToNat, List.length_cons, List.length_nil, List.length_append, Int.toNat_natCast] <;> omega)) only [Nat.reduceLT, Nat.reduceLeDiff, Nat.reduceEqDiff, ↓reduceIte, Int.reduceLT, Int.reduceLE, Int.reduceToNat, Int.reduceEq, Int.reduceNe, Nat.reduceAdd, UInt8.reduceOfNat, UInt16.reduceOfNat, UInt32.reduceOfNat, UInt64.reduceOfNat, UInt64.reduceToNat, UInt32.reduceToNat, UInt16.reduceToNat, UInt8.reduceToNat, Int.reduceAdd, Int.reduceSub, Int.reduceMul, Nat.reduceMul, Qp0, Ql0, Qe0]
  · simp -dsimp -implicitDefEqProofs (disch := first | omega | assumption | (simp only [Option.isSome_some, Qt0]; done) | (simp only [UInt64.reduceToNat, UInt32.reduceToNat, UInt8.reduceToNat, List.length_cons, List.length_nil, List.length_append, Int.toNat_natCast] <;> omega)) only [Nat.reduceLT, Nat.reduceLeDiff, Nat.reduceEqDiff, ↓reduceIte, Int.reduceLT, Int.reduceLE, Int.reduceToNat, Int.reduceEq, Int.reduceNe, Nat.reduceAdd, UInt8.reduceOfNat, UInt16.reduceOfNat, UInt32.reduceOfNat, UInt64.reduceOfNat, UInt64.reduceToNat, UInt32.reduceToNat, UInt16.reduceToNat, UInt8.reduceToNat, Int.reduceAdd, Int.reduceSub, Int.reduceMul, Nat.reduceMul, Qp0, Ql0, Qe0]
  · simp -dsimp -implicitDefEqProofs (disch := first | omega | assumption | (simp only [Option.isSome_some, Qt0]; done) | (simp only [UInt64.reduceToNat, UInt32.reduceToNat, UInt8.reduceToNat, List.length_cons, List.length_nil, List.length_append, Int.toNat_natCast] <;> omega)) only [Nat.reduceLT, Nat.reduceLeDiff, Nat.reduceEqDiff, ↓reduceIte, Int.reduceLT, Int.reduceLE, Int.reduceToNat, Int.reduceEq, Int.reduceNe, Nat.reduceAdd, UInt8.reduceOfNat, UInt16.reduceOfNat, UInt32.reduceOfNat, UInt64.reduceOfNat, UInt64.reduceToNat, UInt32.reduceToNat, UInt16.reduceToNat, UInt8.reduceToNat, Int.reduceAdd, Int.reduceSub, Int.reduceMul, Nat.reduceMul, Qp0, Ql0, Qe0]
  rintro n f h' ⟨k, v, hk, rfl, h0, h5, h4, how⟩
  by_cases hkq : k < q
  · have hlt : k < s.length := by omega
    have hn := nums_snoc s k hlt
    obtain ⟨c, hc⟩ : ∃ c, c = s.getD k 0 := ⟨_, rfl⟩
    have hcg := hg k hkq
    rw [← hc] at hcg
    rw [← hc] at hn
    have hcall : PCalls Try.prog w0 59 [str [65, 66, 67, 68, 69, 70, 71, 72, 73, 74, 75, 76, 77, 78, 79, 80, 81, 82, 83, 84, 85, 86, 87, 88, 89, 90, 97, 98, 99, 100, 101, 102, 103, 104, 105, 106, 107, 108, 109, 110, 111, 112, 113, 114, 115, 116, 117, 118, 119, 120, 121, 122, 48, 49, 50, 51, 52, 53, 54, 55, 56, 57, 45, 95], u8 c] h' fun v h2 => v = .int .i64 (idx c) ∧ h2 = h' := index_any letters c w0 h'
    simp -dsimp -implicitDefEqProofs (disch := first | omega | assumption | (simp only [Option.isSome_some, Qt0]; done) | (simp only [UInt64.reduceToNat, UInt32.reduceToNat, UInt8.reduceToNat, List.length_cons, List.length_nil, List.length_append, Int.toNat_natCast] <;> omega)) only [Nat.reduceLT, Nat.reduceLeDiff, Nat.reduceEqDiff, ↓reduceIte, Int.reduceLT, Int.reduceLE, Int.reduceToNat, Int.reduceEq, Int.reduceNe, Nat.reduceAdd, UInt8.reduceOfNat, UInt16.reduceOfNat, UInt32.reduceOfNat, UInt64.reduceOfNat, UInt64.reduceToNat, UInt32.reduceToNat, UInt16.reduceToNat, UInt8.reduceToNat, Int.reduceAdd, Int.reduceSub, Int.reduceMul, Nat.reduceMul, Qp0, Ql0, Qe0, h0, h5, ← hc]
    refine hcall.mono ?_
    rintro u h2 ⟨rfl, rfl⟩
    simp -dsimp -implicitDefEqProofs (disch := first | omega | assumption | (simp only [Option.isSome_some, Qt0]; done) | (simp only [UInt64.reduceToNat, UInt32.reduceToNat, UInt8.reduceToNat, List.length_cons, List.length_nil, List.length_append, Int.toNat_natCast] <;> omega)) only [Nat.reduceLT, Nat.reduceLeDiff, Nat.reduceEqDiff, ↓reduceIte, Int.reduceLT, Int.reduceLE, Int.reduceToNat, Int.reduceEq, Int.reduceNe, Nat.reduceAdd, UInt8.reduceOfNat, UInt16.reduceOfNat, UInt32.reduceOfNat, UInt64.reduceOfNat, UInt64.reduceToNat, UInt32.reduceToNat, UInt16.reduceToNat, UInt8.reduceToNat, Int.reduceAdd, Int.reduceSub, Int.reduceMul, Nat.reduceMul, Qp0, Ql0, Qe0, h0, h5, h4]
    refine Does_one (v := u32 _) el_u32t rfl (by omega) (fun gb hgb => ?_)
    simp -dsimp -implicitDefEqProofs (disch := first | omega | assumption | (simp only [Option.isSome_some, Qt0]; done) | (simp only [UInt64.reduceToNat, UInt32.reduceToNat, UInt8.reduceToNat, List.length_cons, List.length_nil, List.length_append, Int.toNat_natCast] <;> omega)) only [Nat.reduceLT, Nat.reduceLeDiff, Nat.reduceEqDiff, ↓reduceIte, Int.reduceLT, Int.reduceLE, Int.reduceToNat, Int.reduceEq, Int.reduceNe, Nat.reduceAdd, UInt8.reduceOfNat, UInt16.reduceOfNat, UInt32.reduceOfNat, UInt64.reduceOfNat, UInt64.reduceToNat, UInt32.reduceToNat, UInt16.reduceToNat, UInt8.reduceToNat, Int.reduceAdd, Int.reduceSub, Int.reduceMul, Nat.reduceMul, Qp0, Ql0, Qe0, h0, h5, h4]
    refine Does_app el_u32t (how.more ((PH.Le.refl _).new _ _ hgb)).own (Rs.blk (k := ⟨[u32 (UInt32.ofInt (idx c))], 1⟩) (by rw [PH.new_m, if_pos rfl]; rfl) rfl) (wst_one [UInt32.ofInt (idx c)]) (by unfold maxLen; omega) (by omega) (fun v' h3' ho hst => ?_)
    have hou' := (how.more ((PH.Le.refl _).new _ _ hgb)).stays hst ho
    rw [hn] at hou'
    simp -dsimp -implicitDefEqProofs (disch := first | omega | assumption | (simp only [Option.isSome_some, Qt0]; done) | (simp only [UInt64.reduceToNat, UInt32.reduceToNat, UInt8.reduceToNat, List.length_cons, List.length_nil, List.length_append, Int.toNat_natCast] <;> omega)) only [Nat.reduceLT, Nat.reduceLeDiff, Nat.reduceEqDiff, ↓reduceIte, Int.reduceLT, Int.reduceLE, Int.reduceToNat, Int.reduceEq, Int.reduceNe, Nat.reduceAdd, UInt8.reduceOfNat, UInt16.reduceOfNat, UInt32.reduceOfNat, UInt64.reduceOfNat, UInt64.reduceToNat, UInt32.reduceToNat, UInt16.reduceToNat, UInt8.reduceToNat, Int.reduceAdd, Int.reduceSub, Int.reduceMul, Nat.reduceMul, Qp0, Ql0, Qe0, h0, h5, h4]
    refine ⟨_, h3', by omega, PH.Le.refl _, k + 1, v', by omega, rfl, ?_, ?_, ?_, hou'⟩
    · first | rfl | (simp; done)
    · first | rfl | (simp; done)
    · first | rfl | (simp; done)
  · obtain rfl : k = q := by omega
    obtain ⟨c, hc⟩ : ∃ c, c = s.getD k 0 := ⟨_, rfl⟩
    rw [← hc] at hb
    have hcall : PCalls Try.prog w0 59 [str [65, 66, 67, 68, 69, 70, 71, 72, 73, 74, 75, 76, 77, 78, 79, 80, 81, 82, 83, 84, 85, 86, 87, 88, 89, 90, 97, 98, 99, 100, 101, 102, 103, 104, 105, 106, 107, 108, 109, 110, 111, 112, 113, 114, 115, 116, 117, 118, 119, 120, 121, 122, 48, 49, 50, 51, 52, 53, 54, 55, 56, 57, 45, 95], u8 c] h' fun v h2 => v = .int .i64 (idx c) ∧ h2 = h' := index_any letters c w0 h'
    have hB := Lib.hid (tbad_any (k : Int) w0 h')
    simp -dsimp -implicitDefEqProofs (disch := first | omega | assumption | (simp only [Option.isSome_some, Qt0]; done) | (simp only [UInt64.reduceToNat, UInt32.reduceToNat, UInt8.reduceToNat, List.length_cons, List.length_nil, List.length_append, Int.toNat_natCast] <;> omega)) only [Nat.reduceLT, Nat.reduceLeDiff, Nat.reduceEqDiff, ↓reduceIte, Int.reduceLT, Int.reduceLE, Int.reduceToNat, Int.reduceEq, Int.reduceNe, Nat.reduceAdd, UInt8.reduceOfNat, UInt16.reduceOfNat, UInt32.reduceOfNat, UInt64.reduceOfNat, UInt64.reduceToNat, UInt32.reduceToNat, UInt16.reduceToNat, UInt8.reduceToNat, Int.reduceAdd, Int.reduceSub, Int.reduceMul, Nat.reduceMul, Qp0, Ql0, Qe0, h0, h5, ← hc]
    refine hcall.mono ?_
    rintro u h2 ⟨rfl, rfl⟩
    simp -dsimp -implicitDefEqProofs (disch := first | omega | assumption | (simp only [Option.isSome_some, Qt0]; done) | (simp only [UInt64.reduceToNat, UInt32.reduceToNat, UInt8.reduceToNat, List.length_cons, List.length_nil, List.length_append, Int.toNat_natCast] <;> omega)) only [Nat.reduceLT, Nat.reduceLeDiff, Nat.reduceEqDiff, ↓reduceIte, Int.reduceLT, Int.reduceLE, Int.reduceToNat, Int.reduceEq, Int.reduceNe, Nat.reduceAdd, UInt8.reduceOfNat, UInt16.reduceOfNat, UInt32.reduceOfNat, UInt64.reduceOfNat, UInt64.reduceToNat, UInt32.reduceToNat, UInt16.reduceToNat, UInt8.reduceToNat, Int.reduceAdd, Int.reduceSub, Int.reduceMul, Nat.reduceMul, Qp0, Ql0, Qe0, h0, h5, h4]
    refine hB.out.mono ?_
    rintro v hz ⟨be, rfl, hbe, rfl⟩
    simp -dsimp -implicitDefEqProofs (disch := first | omega | assumption | (simp only [Option.isSome_some, Qt0]; done) | (simp only [UInt64.reduceToNat, UInt32.reduceToNat, UInt8.reduceToNat, List.length_cons, List.length_nil, List.length_append, Int.toNat_natCast] <;> omega)) only [Nat.reduceLT, Nat.reduceLeDiff, Nat.reduceEqDiff, ↓reduceIte, Int.reduceLT, Int.reduceLE, Int.reduceToNat, Int.reduceEq, Int.reduceNe, Nat.reduceAdd, UInt8.reduceOfNat, UInt16.reduceOfNat, UInt32.reduceOfNat, UInt64.reduceOfNat, UInt64.reduceToNat, UInt32.reduceToNat, UInt16.reduceToNat, UInt8.reduceToNat, Int.reduceAdd, Int.reduceSub, Int.reduceMul, Nat.reduceMul, Qp0, Ql0, Qe0]
    exact ⟨_, PH.Le.new1 (how.le.new _ _ (Nat.le_trans how.le.top hbe)) (by rw [PH.new_m, if_pos rfl]), be, rfl, Nat.le_trans how.le.top hbe, rfl⟩
set_option maxRecDepth 20000 in
set_option maxHeartbeats 4000000 in
theorem dec_bad2 (s : List UInt8) (w0 : World) (h : PH) (hs : s.length ≤ 4000000) (hg : ∀ c ∈ s, 0 ≤ idx c) (hd : decN (nums s) = none) :
    PCalls Try.prog w0 40 [str s] h fun v h' => ∃ be, v = .tuple #[str [], errV be] ∧ h.top ≤ be ∧ h' = h.new be ⟨[str textT, .int .i64 (decEnd s), codeV 2], 3⟩ := by
  refine PCalls_body Try.func40 (by kernel_rfl) rfl _ Try.ntmps40 (by kernel_rfl) (by kernel_rfl) _ Try.results40 ?_
  simp -dsimp -implicitDefEqProofs (disch := first | omega | assumption | (simp only [Option.isSome_some, Qt0]; done) | (simp only [UInt64.reduceToNat, UInt32.reduceToNat, UInt8.reduceToNat, List.length_cons, List.length_nil, List.length_append, Int.toNat_natCast] <;> omega)) only [Nat.reduceLT, Nat.reduceLeDiff, Nat.reduceEqDiff, ↓reduceIte, Int.reduceLT, Int.reduceLE, Int.reduceToNat, Int.reduceEq, Int.reduceNe, Nat.reduceAdd, UInt8.reduceOfNat, UInt16.reduceOfNat, UInt32.reduceOfNat, UInt64.reduceOfNat, UInt64.reduceToNat, UInt32.reduceToNat, UInt16.reduceToNat, UInt8.reduceToNat, Int.reduceAdd, Int.reduceSub, Int.reduceMul, Nat.reduceMul, Qp0, Ql0, Qe0]
  refine PW_loop (fun n f h' => ∃ (k : Nat) (v : Value), k ≤ s.length ∧ n = s.length - k ∧ f 0 = some (str s) ∧ f 5 = some (.int .i64 k) ∧ f 4 = some v ∧ OwnS h h' 1 v k (wst (nums (s.take k)))) (by kernel_rfl) s.length ⟨0, .slice none 0 0, by omega, by omega, ?_, ?_, ?_, OwnS.nil h 1⟩ ?_
  · simp -dsimp -implicitDefEqProofs (disch := first | omega | assumption | (simp only [Option.isSome_some, Qt0]; done) | (simp only [UInt64.reduceToNat, UInt32.reduceToNat, UInt8.reduceToNat, List.length_cons, List.length_nil, List.length_append, Int.toNat_natCast] <;> omega)) only [Nat.reduceLT, Nat.reduceLeDiff, Nat.reduceEqDiff, ↓reduceIte, Int.reduceLT, Int.reduceLE, Int.reduceToNat, Int.reduceEq, Int.reduceNe, Nat.reduceAdd, UInt8.reduceOfNat, UInt16.reduceOfNat, UInt32.reduceOfNat, UInt64.reduceOfNat, UInt64.reduceToNat, UInt32.reduceToNat, UInt16.reduceToNat, UInt8.reduceToNat, Int.reduceAdd, Int.reduceSub, Int.reduceMul, Nat.reduceMul, Qp0, Ql0, Qe0]
  · simp -dsimp -implicitDefEqProofs (disch := first | omega | assumption | (simp only [Option.isSome_some, Qt0]; done) | (simp only [UInt64.reduceToNat, UInt32.reduceToNat, UInt8.reduceToNat, List.length_cons, List.length_nil, List.length_append, Int.toNat_natCast] <;> omega)) only [Nat.reduceLT, Nat.reduceLeDiff, Nat.reduceEqDiff, ↓reduceIte, Int.reduceLT, Int.reduceLE, Int.reduceToNat, Int.reduceEq, Int.reduceNe, Nat.reduceAdd, UInt8.reduceOfNat, UInt16.reduceOfNat, UInt32.reduceOfNat, UInt64.reduceOfNat, UInt64.reduceToNat, UInt32.reduceToNat, UInt16.reduceToNat, UInt8.reduceToNat, Int.reduceAdd, Int.reduceSub, Int.reduceMul, Nat.reduceMul, Qp0, Ql0, Qe0]
  · simp -dsimp -implicitDefEqProofs (disch := first | omega | assumption | (simp only [Option.isSome_some, Qt0]; done) | (simp only [UInt64.reduceToNat, UInt32.reduceToNat, UInt8.reduceToNat, List.length_cons, List.length_nil, List.length_append, Int.toNat_natCast] <;> omega)) only [Nat.reduceLT, Nat.reduceLeDiff, Nat.reduceEqDiff, ↓reduceIte, Int.reduceLT, Int.reduceLE, Int.reduceToNat, Int.reduceEq, Int.reduceNe, Nat.reduceAdd, UInt8.reduceOfNat, UInt16.reduceOfNat, UInt32.reduceOfNat, UInt64.reduceOfNat, UInt64.reduceToNat, UInt32.reduceToNat, UInt16.reduceToNat, UInt8.reduceToNat, Int.reduceAdd, Int.reduceSub, Int.reduceMul, Nat.reduceMul, Qp0, Ql0, Qe0]
  rintro n f h' ⟨k, v, hk, rfl, h0, h5, h4, how⟩
  by_cases hlt : k < s.length
  · have hn := nums_snoc s k hlt
    obtain ⟨c, hc⟩ : ∃ c, c = s.getD k 0 := ⟨_, rfl⟩
    have hin : c ∈ s := by rw [hc, List.getD, List.getElem?_eq_getElem hlt]; exact List.getElem_mem hlt
    have hcg := hg c hin
    rw [← hc] at hn
    have hcall : PCalls Try.prog w0 59 [str [65, 66, 67, 68, 69, 70, 71, 72, 73, 74, 75, 76, 77, 78, 79, 80, 81, 82, 83, 84, 85, 86, 87, 88, 89, 90, 97, 98, 99, 100, 101, 102, 103, 104, 105, 106, 107, 108, 109, 110, 111, 112, 113, 114, 115, 116, 117, 118, 119, 120, 121, 122, 48, 49, 50, 51, 52, 53, 54, 55, 56, 57, 45, 95], u8 c] h' fun v h2 => v = .int .i64 (idx c) ∧ h2 = h' := index_any letters c w0 h'
    simp -dsimp -implicitDefEqProofs (disch := first | omega | assumption | (simp only [Option.isSome_some, Qt0]; done) | (simp only [UInt64.reduceToNat, UInt32.reduceToNat, UInt8.reduceToNat, List.length_cons, List.length_nil, List.length_append, Int.toNat_natCast] <;> omega)) only [Nat.reduceLT, Nat.reduceLeDiff, Nat.reduceEqDiff, ↓reduceIte, Int.reduceLT, Int.reduceLE, Int.reduceToNat, Int.reduceEq, Int.reduceNe, Nat.reduceAdd, UInt8.reduceOfNat, UInt16.reduceOfNat, UInt32.reduceOfNat, UInt64.reduceOfNat, UInt64.reduceToNat, UInt32.reduceToNat, UInt16.reduceToNat, UInt8.reduceToNat, Int.reduceAdd, Int.reduceSub, Int.reduceMul, Nat.reduceMul, Qp0, Ql0, Qe0, h0, h5, ← hc]
    refine hcall.mono ?_
    rintro u h2 ⟨rfl, rfl⟩
    simp -dsimp -implicitDefEqProofs (disch := first | omega | assumption | (simp only [Option.isSome_some, Qt0]; done) | (simp only [UInt64.reduceToNat, UInt32.reduceToNat, UInt8.reduceToNat, List.length_cons, List.length_nil, List.length_append, Int.toNat_natCast] <;> omega)) only [Nat.reduceLT, Nat.reduceLeDiff, Nat.reduceEqDiff, ↓reduceIte, Int.reduceLT, Int.reduceLE, Int.reduceToNat, Int.reduceEq, Int.reduceNe, Nat.reduceAdd, UInt8.reduceOfNat, UInt16.reduceOfNat, UInt32.reduceOfNat, UInt64.reduceOfNat, UInt64.reduceToNat, UInt32.reduceToNat, UInt16.reduceToNat, UInt8.reduceToNat, Int.reduceAdd, Int.reduceSub, Int.reduceMul, Nat.reduceMul, Qp0, Ql0, Qe0, h0, h5, h4]
    refine Does_one (v := u32 _) el_u32t rfl (by omega) (fun gb hgb => ?_)
    simp -dsimp -implicitDefEqProofs (disch := first | omega | assumption | (simp only [Option.isSome_some, Qt0]; done) | (simp only [UInt64.reduceToNat, UInt32.reduceToNat, UInt8.reduceToNat, List.length_cons, List.length_nil, List.length_append, Int.toNat_natCast] <;> omega)) only [Nat.reduceLT, Nat.reduceLeDiff, Nat.reduceEqDiff, ↓reduceIte, Int.reduceLT, Int.reduceLE, Int.reduceToNat, Int.reduceEq, Int.reduceNe, Nat.reduceAdd, UInt8.reduceOfNat, UInt16.reduceOfNat, UInt32.reduceOfNat, UInt64.reduceOfNat, UInt64.reduceToNat, UInt32.reduceToNat, UInt16.reduceToNat, UInt8.reduceToNat, Int.reduceAdd, Int.reduceSub, Int.reduceMul, Nat.reduceMul, Qp0, Ql0, Qe0, h0, h5, h4]
    refine Does_app el_u32t (how.more ((PH.Le.refl _).new _ _ hgb)).own (Rs.blk (k := ⟨[u32 (UInt32.ofInt (idx c))], 1⟩) (by rw [PH.new_m, if_pos rfl]; rfl) rfl) (wst_one [UInt32.ofInt (idx c)]) (by unfold maxLen; omega) (by omega) (fun v' h3' ho hst => ?_)
    have hou' := (how.more ((PH.Le.refl _).new _ _ hgb)).stays hst ho
    rw [hn] at hou'
    simp -dsimp -implicitDefEqProofs (disch := first | omega | assumption | (simp only [Option.isSome_some, Qt0]; done) | (simp only [UInt64.reduceToNat, UInt32.reduceToNat, UInt8.reduceToNat, List.length_cons, List.length_nil, List.length_append, Int.toNat_natCast] <;> omega)) only [Nat.reduceLT, Nat.reduceLeDiff, Nat.reduceEqDiff, ↓reduceIte, Int.reduceLT, Int.reduceLE, Int.reduceToNat, Int.reduceEq, Int.reduceNe, Nat.reduceAdd, UInt8.reduceOfNat, UInt16.reduceOfNat, UInt32.reduceOfNat, UInt64.reduceOfNat, UInt64.reduceToNat, UInt32.reduceToNat, UInt16.reduceToNat, UInt8.reduceToNat, Int.reduceAdd, Int.reduceSub, Int.reduceMul, Nat.reduceMul, Qp0, Ql0, Qe0, h0, h5, h4]
    refine ⟨_, h3', by omega, PH.Le.refl _, k + 1, v', by omega, rfl, ?_, ?_, ?_, hou'⟩
    · first | rfl | (simp; done)
    · first | rfl | (simp; done)
    · first | rfl | (simp; done)
  · obtain rfl : k = s.length := by omega
    rw [List.take_length] at how
    obtain ⟨A0, c0, rfl, hc0⟩ := how.own.len
    have hNl : (nums s).length = s.length := by simp [nums]
    simp -dsimp -implicitDefEqProofs (disch := first | omega | assumption | (simp only [Option.isSome_some, Qt0]; done) | (simp only [UInt64.reduceToNat, UInt32.reduceToNat, UInt8.reduceToNat, List.length_cons, List.length_nil, List.length_append, Int.toNat_natCast] <;> omega)) only [Nat.reduceLT, Nat.reduceLeDiff, Nat.reduceEqDiff, ↓reduceIte, Int.reduceLT, Int.reduceLE, Int.reduceToNat, Int.reduceEq, Int.reduceNe, Nat.reduceAdd, UInt8.reduceOfNat, UInt16.reduceOfNat, UInt32.reduceOfNat, UInt64.reduceOfNat, UInt64.reduceToNat, UInt32.reduceToNat, UInt16.reduceToNat, UInt8.reduceToNat, Int.reduceAdd, Int.reduceSub, Int.reduceMul, Nat.reduceMul, Qp0, Ql0, Qe0, h0, h5, h4]
    refine PW_loop (fun n f h2 => ∃ (r : List UInt32) (d : List UInt8) (A : Option Addr) (c o : Nat) (u : Value), r.length = n ∧ f 0 = some (str s) ∧ f 4 = some (.slice A r.length c) ∧ f 7 = some u ∧ OwnS h' h2 1 u d.length (bs d) ∧ decN r = none ∧ r.length % 4 = s.length % 4 ∧ d.length + r.length ≤ s.length ∧ r.length ≤ c ∧ (0 < r.length → ∃ b lim, A = some ⟨b, o, none⟩ ∧ h'.m b = some ⟨wst (nums s), lim⟩) ∧ (nums s).drop o = r) (by kernel_rfl) s.length
      ⟨nums s, [], A0, c0, 0, .slice none 0 0, hNl, ?_, ?_, ?_, OwnS.nil h' 1, hd, by rw [hNl], by rw [hNl]; simp, by rw [hNl]; exact hc0, ?_, rfl⟩ ?_
    · simp -dsimp -implicitDefEqProofs (disch := first | omega | assumption | (simp only [Option.isSome_some, Qt0]; done) | (simp only [UInt64.reduceToNat, UInt32.reduceToNat, UInt8.reduceToNat, List.length_cons, List.length_nil, List.length_append, Int.toNat_natCast] <;> omega)) only [Nat.reduceLT, Nat.reduceLeDiff, Nat.reduceEqDiff, ↓reduceIte, Int.reduceLT, Int.reduceLE, Int.reduceToNat, Int.reduceEq, Int.reduceNe, Nat.reduceAdd, UInt8.reduceOfNat, UInt16.reduceOfNat, UInt32.reduceOfNat, UInt64.reduceOfNat, UInt64.reduceToNat, UInt32.reduceToNat, UInt16.reduceToNat, UInt8.reduceToNat, Int.reduceAdd, Int.reduceSub, Int.reduceMul, Nat.reduceMul, Qp0, Ql0, Qe0, h0]
    · simp -dsimp -implicitDefEqProofs (disch := first | omega | assumption | (simp only [Option.isSome_some, Qt0]; done) | (simp only [UInt64.reduceToNat, UInt32.reduceToNat, UInt8.reduceToNat, List.length_cons, List.length_nil, List.length_append, Int.toNat_natCast] <;> omega)) only [Nat.reduceLT, Nat.reduceLeDiff, Nat.reduceEqDiff, ↓reduceIte, Int.reduceLT, Int.reduceLE, Int.reduceToNat, Int.reduceEq, Int.reduceNe, Nat.reduceAdd, UInt8.reduceOfNat, UInt16.reduceOfNat, UInt32.reduceOfNat, UInt64.reduceOfNat, UInt64.reduceToNat, UInt32.reduceToNat, UInt16.reduceToNat, UInt8.reduceToNat, Int.reduceAdd, Int.reduceSub, Int.reduceMul, Nat.reduceMul, Qp0, Ql0, Qe0, h4, hNl]
    · simp -dsimp -implicitDefEqProofs (disch := first | omega | assumption | (simp only [Option.isSome_some, Qt0]; done) | (simp only [UInt64.reduceToNat, UInt32.reduceToNat, UInt8.reduceToNat, List.length_cons, List.length_nil, List.length_append, Int.toNat_natCast] <;> omega)) only [Nat.reduceLT, Nat.reduceLeDiff, Nat.reduceEqDiff, ↓reduceIte, Int.reduceLT, Int.reduceLE, Int.reduceToNat, Int.reduceEq, Int.reduceNe, Nat.reduceAdd, UInt8.reduceOfNat, UInt16.reduceOfNat, UInt32.reduceOfNat, UInt64.reduceOfNat, UInt64.reduceToNat, UInt32.reduceToNat, UInt16.reduceToNat, UInt8.reduceToNat, Int.reduceAdd, Int.reduceSub, Int.reduceMul, Nat.reduceMul, Qp0, Ql0, Qe0]
    · intro hp
      obtain ⟨b, c, e, _, hb⟩ := how.own.pos (by rw [hNl] at hp; exact hp)
      injection e with e1 e2 e3
      exact ⟨b, _, e1, hb⟩
    rintro n f2 h2 ⟨r, d, A, c, o, u, rfl, g0, g4, g7, hou, hdec, hmod, hbd, hrc, hA, hdr⟩
    rcases r with _ | ⟨a, _ | ⟨x, _ | ⟨y, _ | ⟨z, t⟩⟩⟩⟩
    · simp [decN] at hdec
    · have hE : (s.length : Int) = decEnd s := by unfold decEnd; rw [if_pos (by simpa using hmod.symm)]
      have hB := Lib.hid (tbad_any (s.length : Int) w0 h2)
      simp -dsimp -implicitDefEqProofs (disch := first | omega | assumption | (simp only [Option.isSome_some, Qt0]; done) | (simp only [UInt64.reduceToNat, UInt32.reduceToNat, UInt8.reduceToNat, List.length_cons, List.length_nil, List.length_append, Int.toNat_natCast] <;> omega)) only [Nat.reduceLT, Nat.reduceLeDiff, Nat.reduceEqDiff, ↓reduceIte, Int.reduceLT, Int.reduceLE, Int.reduceToNat, Int.reduceEq, Int.reduceNe, Nat.reduceAdd, UInt8.reduceOfNat, UInt16.reduceOfNat, UInt32.reduceOfNat, UInt64.reduceOfNat, UInt64.reduceToNat, UInt32.reduceToNat, UInt16.reduceToNat, UInt8.reduceToNat, Int.reduceAdd, Int.reduceSub, Int.reduceMul, Nat.reduceMul, Qp0, Ql0, Qe0, g0, g4, g7]
      refine hB.out.mono ?_
      rintro v hz ⟨be, rfl, hbe, rfl⟩
      rw [hE]
      simp -dsimp -implicitDefEqProofs (disch := first | omega | assumption | (simp only [Option.isSome_some, Qt0]; done) | (simp only [UInt64.reduceToNat, UInt32.reduceToNat, UInt8.reduceToNat, List.length_cons, List.length_nil, List.length_append, Int.toNat_natCast] <;> omega)) only [Nat.reduceLT, Nat.reduceLeDiff, Nat.reduceEqDiff, ↓reduceIte, Int.reduceLT, Int.reduceLE, Int.reduceToNat, Int.reduceEq, Int.reduceNe, Nat.reduceAdd, UInt8.reduceOfNat, UInt16.reduceOfNat, UInt32.reduceOfNat, UInt64.reduceOfNat, UInt64.reduceToNat, UInt32.reduceToNat, UInt16.reduceToNat, UInt8.reduceToNat, Int.reduceAdd, Int.reduceSub, Int.reduceMul, Nat.reduceMul, Qp0, Ql0, Qe0]
      exact ⟨_, PH.Le.new1 ((how.le.trans hou.le).new _ _ (Nat.le_trans (how.le.trans hou.le).top hbe)) (by rw [PH.new_m, if_pos rfl]), be, rfl, Nat.le_trans (how.le.trans hou.le).top hbe, rfl⟩
    · have hif : ¬ x &&& 15 = 0 := by
        intro hz
        simp [decN, hz] at hdec
      have hE : (s.length : Int) - 1 = decEnd s := by unfold decEnd; rw [if_neg (by simp at hmod; omega)]
      obtain ⟨b, lim, rfl, hb⟩ := hA (by simp)
      have R : ∀ hh, PH.Le h' hh → ∀ {j : Nat} {v : UInt32}, [a, x][j]? = some v → rd w0 hh ⟨b, o + j, none⟩ = some (u32 v) := fun hh hl j v hv => rd_ws (hl.m b _ hb) hdr hv
      have r0 : rd w0 h' ⟨b, o, none⟩ = some (u32 a) := R h' (PH.Le.refl _) (j := 0) rfl
      have r1 : rd w0 h' ⟨b, o + 1, none⟩ = some (u32 x) := R h' (PH.Le.refl _) (j := 1) rfl
      simp -dsimp -implicitDefEqProofs (disch := first | omega | assumption | (simp only [Option.isSome_some, Qt0]; done) | (simp only [UInt64.reduceToNat, UInt32.reduceToNat, UInt8.reduceToNat, List.length_cons, List.length_nil, List.length_append, Int.toNat_natCast] <;> omega)) only [Nat.reduceLT, Nat.reduceLeDiff, Nat.reduceEqDiff, ↓reduceIte, Int.reduceLT, Int.reduceLE, Int.reduceToNat, Int.reduceEq, Int.reduceNe, Nat.reduceAdd, UInt8.reduceOfNat, UInt16.reduceOfNat, UInt32.reduceOfNat, UInt64.reduceOfNat, UInt64.reduceToNat, UInt32.reduceToNat, UInt16.reduceToNat, UInt8.reduceToNat, Int.reduceAdd, Int.reduceSub, Int.reduceMul, Nat.reduceMul, Qp0, Ql0, Qe0, g0, g4, g7]
      refine PW_drawn 11 h' (by kernel_rfl) (by kernel_rfl) (by kernel_rfl) (by kernel_rfl) (by kernel_rfl) (fun c f h hq => by simp only [thenC_panic, thenK_panic, inBlk_panic, thenN_panic, vcRet_panic] at hq) hou.le.sub ?_
      simp -dsimp -implicitDefEqProofs (disch := first | omega | assumption | (simp only [Option.isSome_some, Qt0]; done) | (simp only [UInt64.reduceToNat, UInt32.reduceToNat, UInt8.reduceToNat, List.length_cons, List.length_nil, List.length_append, Int.toNat_natCast] <;> omega)) only [Nat.reduceLT, Nat.reduceLeDiff, Nat.reduceEqDiff, ↓reduceIte, Int.reduceLT, Int.reduceLE, Int.reduceToNat, Int.reduceEq, Int.reduceNe, Nat.reduceAdd, UInt8.reduceOfNat, UInt16.reduceOfNat, UInt32.reduceOfNat, UInt64.reduceOfNat, UInt64.reduceToNat, UInt32.reduceToNat, UInt16.reduceToNat, UInt8.reduceToNat, Int.reduceAdd, Int.reduceSub, Int.reduceMul, Nat.reduceMul, Qp0, Ql0, Qe0, g0, g4, g7, r0, r1]
      refine Does_cells (vs := bs [two a x]) el_u8d rfl (by omega) (by omega) (fill1 _) (fun gb hgb => ?_)
      simp -dsimp -implicitDefEqProofs (disch := first | omega | assumption | (simp only [Option.isSome_some, Qt0]; done) | (simp only [UInt64.reduceToNat, UInt32.reduceToNat, UInt8.reduceToNat, List.length_cons, List.length_nil, List.length_append, Int.toNat_natCast] <;> omega)) only [Nat.reduceLT, Nat.reduceLeDiff, Nat.reduceEqDiff, ↓reduceIte, Int.reduceLT, Int.reduceLE, Int.reduceToNat, Int.reduceEq, Int.reduceNe, Nat.reduceAdd, UInt8.reduceOfNat, UInt16.reduceOfNat, UInt32.reduceOfNat, UInt64.reduceOfNat, UInt64.reduceToNat, UInt32.reduceToNat, UInt16.reduceToNat, UInt8.reduceToNat, Int.reduceAdd, Int.reduceSub, Int.reduceMul, Nat.reduceMul, Qp0, Ql0, Qe0, g0, g4, g7]
      refine ⟨(hou.le.new _ _ (Nat.le_trans hou.le.top hgb)).sub, ?_⟩
      simp -dsimp -implicitDefEqProofs (disch := first | omega | assumption | (simp only [Option.isSome_some, Qt0]; done) | (simp only [UInt64.reduceToNat, UInt32.reduceToNat, UInt8.reduceToNat, List.length_cons, List.length_nil, List.length_append, Int.toNat_natCast] <;> omega)) only [Nat.reduceLT, Nat.reduceLeDiff, Nat.reduceEqDiff, ↓reduceIte, Int.reduceLT, Int.reduceLE, Int.reduceToNat, Int.reduceEq, Int.reduceNe, Nat.reduceAdd, UInt8.reduceOfNat, UInt16.reduceOfNat, UInt32.reduceOfNat, UInt64.reduceOfNat, UInt64.reduceToNat, UInt32.reduceToNat, UInt16.reduceToNat, UInt8.reduceToNat, Int.reduceAdd, Int.reduceSub, Int.reduceMul, Nat.reduceMul, Qp0, Ql0, Qe0, g0, g4, g7]
      refine Does_app el_u8d (hou.more ((PH.Le.refl _).new _ _ hgb)).own (Rs.blk (k := ⟨bs [two a x], 1⟩) (by rw [PH.new_m, if_pos rfl]) rfl) (bs_one _) (by simp at hbd; unfold maxLen; omega) (by simp at hbd; omega) (fun v' h3' ho hst => ?_)
      have hou' := (hou.more ((PH.Le.refl _).new _ _ hgb)).stays hst ho
      rw [← bs_append] at hou'
      simp -dsimp -implicitDefEqProofs (disch := first | omega | assumption | (simp only [Option.isSome_some, Qt0]; done) | (simp only [UInt64.reduceToNat, UInt32.reduceToNat, UInt8.reduceToNat, List.length_cons, List.length_nil, List.length_append, Int.toNat_natCast] <;> omega)) only [Nat.reduceLT, Nat.reduceLeDiff, Nat.reduceEqDiff, ↓reduceIte, Int.reduceLT, Int.reduceLE, Int.reduceToNat, Int.reduceEq, Int.reduceNe, Nat.reduceAdd, UInt8.reduceOfNat, UInt16.reduceOfNat, UInt32.reduceOfNat, UInt64.reduceOfNat, UInt64.reduceToNat, UInt32.reduceToNat, UInt16.reduceToNat, UInt8.reduceToNat, Int.reduceAdd, Int.reduceSub, Int.reduceMul, Nat.reduceMul, Qp0, Ql0, Qe0, g0, g4, g7]
      refine ⟨hou'.le.sub, ?_⟩
      have q1 : rd w0 h3' ⟨b, o + 1, none⟩ = some (u32 x) := R h3' hou'.le (j := 1) rfl
      obtain ⟨A7, c7, rfl, _⟩ := hou'.own.len
      have hB := Lib.hid (tbad_any ((s.length : Int) - 1) w0 h3')
      simp -dsimp -implicitDefEqProofs (disch := first | omega | assumption | (simp only [Option.isSome_some, Qt0]; done) | (simp only [UInt64.reduceToNat, UInt32.reduceToNat, UInt8.reduceToNat, List.length_cons, List.length_nil, List.length_append, Int.toNat_natCast] <;> omega)) only [Nat.reduceLT, Nat.reduceLeDiff, Nat.reduceEqDiff, ↓reduceIte, Int.reduceLT, Int.reduceLE, Int.reduceToNat, Int.reduceEq, Int.reduceNe, Nat.reduceAdd, UInt8.reduceOfNat, UInt16.reduceOfNat, UInt32.reduceOfNat, UInt64.reduceOfNat, UInt64.reduceToNat, UInt32.reduceToNat, UInt16.reduceToNat, UInt8.reduceToNat, Int.reduceAdd, Int.reduceSub, Int.reduceMul, Nat.reduceMul, Qp0, Ql0, Qe0, g0, g4, g7, q1, hif]
      refine hB.out.mono ?_
      rintro v hz ⟨be, rfl, hbe, rfl⟩
      rw [hE]
      simp -dsimp -implicitDefEqProofs (disch := first | omega | assumption | (simp only [Option.isSome_some, Qt0]; done) | (simp only [UInt64.reduceToNat, UInt32.reduceToNat, UInt8.reduceToNat, List.length_cons, List.length_nil, List.length_append, Int.toNat_natCast] <;> omega)) only [Nat.reduceLT, Nat.reduceLeDiff, Nat.reduceEqDiff, ↓reduceIte, Int.reduceLT, Int.reduceLE, Int.reduceToNat, Int.reduceEq, Int.reduceNe, Nat.reduceAdd, UInt8.reduceOfNat, UInt16.reduceOfNat, UInt32.reduceOfNat, UInt64.reduceOfNat, UInt64.reduceToNat, UInt32.reduceToNat, UInt16.reduceToNat, UInt8.reduceToNat, Int.reduceAdd, Int.reduceSub, Int.reduceMul, Nat.reduceMul, Qp0, Ql0, Qe0]
      exact ⟨_, PH.Le.new1 ((how.le.trans hou'.le).new _ _ (Nat.le_trans (how.le.trans hou'.le).top hbe)) (by rw [PH.new_m, if_pos rfl]), be, rfl, Nat.le_trans (how.le.trans hou'.le).top hbe, rfl⟩
    · have hif : ¬ y &&& 3 = 0 := by
        intro hz
        simp [decN, hz] at hdec
      have hE : (s.length : Int) - 1 = decEnd s := by unfold decEnd; rw [if_neg (by simp at hmod; omega)]
      obtain ⟨b, lim, rfl, hb⟩ := hA (by simp)
      have R : ∀ hh, PH.Le h' hh → ∀ {j : Nat} {v : UInt32}, [a, x, y][j]? = some v → rd w0 hh ⟨b, o + j, none⟩ = some (u32 v) := fun hh hl j v hv => rd_ws (hl.m b _ hb) hdr hv
      have r0 : rd w0 h' ⟨b, o, none⟩ = some (u32 a) := R h' (PH.Le.refl _) (j := 0) rfl
      have r1 : rd w0 h' ⟨b, o + 1, none⟩ = some (u32 x) := R h' (PH.Le.refl _) (j := 1) rfl
      have r2 : rd w0 h' ⟨b, o + 2, none⟩ = some (u32 y) := R h' (PH.Le.refl _) (j := 2) rfl
      simp -dsimp -implicitDefEqProofs (disch := first | omega | assumption | (simp only [Option.isSome_some, Qt0]; done) | (simp only [UInt64.reduceToNat, UInt32.reduceToNat, UInt8.reduceToNat, List.length_cons, List.length_nil, List.length_append, Int.toNat_natCast] <;> omega)) only [Nat.reduceLT, Nat.reduceLeDiff, Nat.reduceEqDiff, ↓reduceIte, Int.reduceLT, Int.reduceLE, Int.reduceToNat, Int.reduceEq, Int.reduceNe, Nat.reduceAdd, UInt8.reduceOfNat, UInt16.reduceOfNat, UInt32.reduceOfNat, UInt64.reduceOfNat, UInt64.reduceToNat, UInt32.reduceToNat, UInt16.reduceToNat, UInt8.reduceToNat, Int.reduceAdd, Int.reduceSub, Int.reduceMul, Nat.reduceMul, Qp0, Ql0, Qe0, g0, g4, g7]
      refine PW_drawn 21 h' (by kernel_rfl) (by kernel_rfl) (by kernel_rfl) (by kernel_rfl) (by kernel_rfl) (fun c f h hq => by simp only [thenC_panic, thenK_panic, inBlk_panic, thenN_panic, vcRet_panic] at hq) hou.le.sub ?_
      simp -dsimp -implicitDefEqProofs (disch := first | omega | assumption | (simp only [Option.isSome_some, Qt0]; done) | (simp only [UInt64.reduceToNat, UInt32.reduceToNat, UInt8.reduceToNat, List.length_cons, List.length_nil, List.length_append, Int.toNat_natCast] <;> omega)) only [Nat.reduceLT, Nat.reduceLeDiff, Nat.reduceEqDiff, ↓reduceIte, Int.reduceLT, Int.reduceLE, Int.reduceToNat, Int.reduceEq, Int.reduceNe, Nat.reduceAdd, UInt8.reduceOfNat, UInt16.reduceOfNat, UInt32.reduceOfNat, UInt64.reduceOfNat, UInt64.reduceToNat, UInt32.reduceToNat, UInt16.reduceToNat, UInt8.reduceToNat, Int.reduceAdd, Int.reduceSub, Int.reduceMul, Nat.reduceMul, Qp0, Ql0, Qe0, g0, g4, g7, r0, r1, r2]
      refine Does_cells (vs := bs [two a x, three x y]) el_u8d rfl (by omega) (by omega) (fill2 _ _) (fun gb hgb => ?_)
      simp -dsimp -implicitDefEqProofs (disch := first | omega | assumption | (simp only [Option.isSome_some, Qt0]; done) | (simp only [UInt64.reduceToNat, UInt32.reduceToNat, UInt8.reduceToNat, List.length_cons, List.length_nil, List.length_append, Int.toNat_natCast] <;> omega)) only [Nat.reduceLT, Nat.reduceLeDiff, Nat.reduceEqDiff, ↓reduceIte, Int.reduceLT, Int.reduceLE, Int.reduceToNat, Int.reduceEq, Int.reduceNe, Nat.reduceAdd, UInt8.reduceOfNat, UInt16.reduceOfNat, UInt32.reduceOfNat, UInt64.reduceOfNat, UInt64.reduceToNat, UInt32.reduceToNat, UInt16.reduceToNat, UInt8.reduceToNat, Int.reduceAdd, Int.reduceSub, Int.reduceMul, Nat.reduceMul, Qp0, Ql0, Qe0, g0, g4, g7]
      refine ⟨(hou.le.new _ _ (Nat.le_trans hou.le.top hgb)).sub, ?_⟩
      simp -dsimp -implicitDefEqProofs (disch := first | omega | assumption | (simp only [Option.isSome_some, Qt0]; done) | (simp only [UInt64.reduceToNat, UInt32.reduceToNat, UInt8.reduceToNat, List.length_cons, List.length_nil, List.length_append, Int.toNat_natCast] <;> omega)) only [Nat.reduceLT, Nat.reduceLeDiff, Nat.reduceEqDiff, ↓reduceIte, Int.reduceLT, Int.reduceLE, Int.reduceToNat, Int.reduceEq, Int.reduceNe, Nat.reduceAdd, UInt8.reduceOfNat, UInt16.reduceOfNat, UInt32.reduceOfNat, UInt64.reduceOfNat, UInt64.reduceToNat, UInt32.reduceToNat, UInt16.reduceToNat, UInt8.reduceToNat, Int.reduceAdd, Int.reduceSub, Int.reduceMul, Nat.reduceMul, Qp0, Ql0, Qe0, g0, g4, g7]
      refine Does_app el_u8d (hou.more ((PH.Le.refl _).new _ _ hgb)).own (Rs.blk (k := ⟨bs [two a x, three x y], 2⟩) (by rw [PH.new_m, if_pos rfl]) rfl) (bs_one _) (by simp at hbd; unfold maxLen; omega) (by simp at hbd; omega) (fun v' h3' ho hst => ?_)
      have hou' := (hou.more ((PH.Le.refl _).new _ _ hgb)).stays hst ho
      rw [← bs_append] at hou'
      simp -dsimp -implicitDefEqProofs (disch := first | omega | assumption | (simp only [Option.isSome_some, Qt0]; done) | (simp only [UInt64.reduceToNat, UInt32.reduceToNat, UInt8.reduceToNat, List.length_cons, List.length_nil, List.length_append, Int.toNat_natCast] <;> omega)) only [Nat.reduceLT, Nat.reduceLeDiff, Nat.reduceEqDiff, ↓reduceIte, Int.reduceLT, Int.reduceLE, Int.reduceToNat, Int.reduceEq, Int.reduceNe, Nat.reduceAdd, UInt8.reduceOfNat, UInt16.reduceOfNat, UInt32.reduceOfNat, UInt64.reduceOfNat, UInt64.reduceToNat, UInt32.reduceToNat, UInt16.reduceToNat, UInt8.reduceToNat, Int.reduceAdd, Int.reduceSub, Int.reduceMul, Nat.reduceMul, Qp0, Ql0, Qe0, g0, g4, g7]
      refine ⟨hou'.le.sub, ?_⟩
      have q2 : rd w0 h3' ⟨b, o + 2, none⟩ = some (u32 y) := R h3' hou'.le (j := 2) rfl
      obtain ⟨A7, c7, rfl, _⟩ := hou'.own.len
      have hB := Lib.hid (tbad_any ((s.length : Int) - 1) w0 h3')
      simp -dsimp -implicitDefEqProofs (disch := first | omega | assumption | (simp only [Option.isSome_some, Qt0]; done) | (simp only [UInt64.reduceToNat, UInt32.reduceToNat, UInt8.reduceToNat, List.length_cons, List.length_nil, List.length_append, Int.toNat_natCast] <;> omega)) only [Nat.reduceLT, Nat.reduceLeDiff, Nat.reduceEqDiff, ↓reduceIte, Int.reduceLT, Int.reduceLE, Int.reduceToNat, Int.reduceEq, Int.reduceNe, Nat.reduceAdd, UInt8.reduceOfNat, UInt16.reduceOfNat, UInt32.reduceOfNat, UInt64.reduceOfNat, UInt64.reduceToNat, UInt32.reduceToNat, UInt16.reduceToNat, UInt8.reduceToNat, Int.reduceAdd, Int.reduceSub, Int.reduceMul, Nat.reduceMul, Qp0, Ql0, Qe0, g0, g4, g7, q2, hif]
      refine hB.out.mono ?_
      rintro v hz ⟨be, rfl, hbe, rfl⟩
      rw [hE]
      simp -dsimp -implicitDefEqProofs (disch := first | omega | assumption | (simp only [Option.isSome_some, Qt0]; done) | (simp only [UInt64.reduceToNat, UInt32.reduceToNat, UInt8.reduceToNat, List.length_cons, List.length_nil, List.length_append, Int.toNat_natCast] <;> omega)) only [Nat.reduceLT, Nat.reduceLeDiff, Nat.reduceEqDiff, ↓reduceIte, Int.reduceLT, Int.reduceLE, Int.reduceToNat, Int.reduceEq, Int.reduceNe, Nat.reduceAdd, UInt8.reduceOfNat, UInt16.reduceOfNat, UInt32.reduceOfNat, UInt64.reduceOfNat, UInt64.reduceToNat, UInt32.reduceToNat, UInt16.reduceToNat, UInt8.reduceToNat, Int.reduceAdd, Int.reduceSub, Int.reduceMul, Nat.reduceMul, Qp0, Ql0, Qe0]
      exact ⟨_, PH.Le.new1 ((how.le.trans hou'.le).new _ _ (Nat.le_trans (how.le.trans hou'.le).top hbe)) (by rw [PH.new_m, if_pos rfl]), be, rfl, Nat.le_trans (how.le.trans hou'.le).top hbe, rfl⟩
    · obtain ⟨b, lim, rfl, hb⟩ := hA (by simp)
      have R : ∀ hh, PH.Le h' hh → ∀ {j : Nat} {v : UInt32}, (a :: x :: y :: z :: t)[j]? = some v → rd w0 hh ⟨b, o + j, none⟩ = some (u32 v) := fun hh hl j v hv => rd_ws (hl.m b _ hb) hdr hv
      have r0 : rd w0 h' ⟨b, o, none⟩ = some (u32 a) := R h' (PH.Le.refl _) (j := 0) rfl
      have r1 : rd w0 h' ⟨b, o + 1, none⟩ = some (u32 x) := R h' (PH.Le.refl _) (j := 1) rfl
      have r2 : rd w0 h' ⟨b, o + 2, none⟩ = some (u32 y) := R h' (PH.Le.refl _) (j := 2) rfl
      have r3 : rd w0 h' ⟨b, o + 3, none⟩ = some (u32 z) := R h' (PH.Le.refl _) (j := 3) rfl
      simp -dsimp -implicitDefEqProofs (disch := first | omega | assumption | (simp only [Option.isSome_some, Qt0]; done) | (simp only [UInt64.reduceToNat, UInt32.reduceToNat, UInt8.reduceToNat, List.length_cons, List.length_nil, List.length_append, Int.toNat_natCast] <;> omega)) only [Nat.reduceLT, Nat.reduceLeDiff, Nat.reduceEqDiff, ↓reduceIte, Int.reduceLT, Int.reduceLE, Int.reduceToNat, Int.reduceEq, Int.reduceNe, Nat.reduceAdd, UInt8.reduceOfNat, UInt16.reduceOfNat, UInt32.reduceOfNat, UInt64.reduceOfNat, UInt64.reduceToNat, UInt32.reduceToNat, UInt16.reduceToNat, UInt8.reduceToNat, Int.reduceAdd, Int.reduceSub, Int.reduceMul, Nat.reduceMul, Qp0, Ql0, Qe0, g0, g4, g7]
      refine PW_drawn 19 h' (by kernel_rfl) (by kernel_rfl) (by kernel_rfl) (by kernel_rfl) (by kernel_rfl) (fun c f h hq => by simp only [thenC_panic, thenK_panic, inBlk_panic, thenN_panic, vcRet_panic] at hq) hou.le.sub ?_
      simp -dsimp -implicitDefEqProofs (disch := first | omega | assumption | (simp only [Option.isSome_some, Qt0]; done) | (simp only [UInt64.reduceToNat, UInt32.reduceToNat, UInt8.reduceToNat, List.length_cons, List.length_nil, List.length_append, Int.toNat_natCast] <;> omega)) only [Nat.reduceLT, Nat.reduceLeDiff, Nat.reduceEqDiff, ↓reduceIte, Int.reduceLT, Int.reduceLE, Int.reduceToNat, Int.reduceEq, Int.reduceNe, Nat.reduceAdd, UInt8.reduceOfNat, UInt16.reduceOfNat, UInt32.reduceOfNat, UInt64.reduceOfNat, UInt64.reduceToNat, UInt32.reduceToNat, UInt16.reduceToNat, UInt8.reduceToNat, Int.reduceAdd, Int.reduceSub, Int.reduceMul, Nat.reduceMul, Qp0, Ql0, Qe0, g0, g4, g7, r0, r1, r2, r3]
      refine Does_cells (vs := bs [(four a x y z >>> 16).toUInt8, (four a x y z >>> 8).toUInt8, (four a x y z).toUInt8]) el_u8d rfl (by omega) (by omega) (fill3 _ _ _) (fun gb hgb => ?_)
      simp -dsimp -implicitDefEqProofs (disch := first | omega | assumption | (simp only [Option.isSome_some, Qt0]; done) | (simp only [UInt64.reduceToNat, UInt32.reduceToNat, UInt8.reduceToNat, List.length_cons, List.length_nil, List.length_append, Int.toNat_natCast] <;> omega)) only [Nat.reduceLT, Nat.reduceLeDiff, Nat.reduceEqDiff, ↓reduceIte, Int.reduceLT, Int.reduceLE, Int.reduceToNat, Int.reduceEq, Int.reduceNe, Nat.reduceAdd, UInt8.reduceOfNat, UInt16.reduceOfNat, UInt32.reduceOfNat, UInt64.reduceOfNat, UInt64.reduceToNat, UInt32.reduceToNat, UInt16.reduceToNat, UInt8.reduceToNat, Int.reduceAdd, Int.reduceSub, Int.reduceMul, Nat.reduceMul, Qp0, Ql0, Qe0, g0, g4, g7]
      refine Does_app el_u8d (hou.more ((PH.Le.refl _).new _ _ hgb)).own (Rs.blk (k := ⟨bs [(four a x y z >>> 16).toUInt8, (four a x y z >>> 8).toUInt8, (four a x y z).toUInt8], 3⟩) (by rw [PH.new_m, if_pos rfl]) rfl) (bs_one _) (by simp at hbd; unfold maxLen; omega) (by simp at hbd; omega) (fun v' h3' ho hst => ?_)
      have hou' := (hou.more ((PH.Le.refl _).new _ _ hgb)).stays hst ho
      rw [← bs_append] at hou'
      simp -dsimp -implicitDefEqProofs (disch := first | omega | assumption | (simp only [Option.isSome_some, Qt0]; done) | (simp only [UInt64.reduceToNat, UInt32.reduceToNat, UInt8.reduceToNat, List.length_cons, List.length_nil, List.length_append, Int.toNat_natCast] <;> omega)) only [Nat.reduceLT, Nat.reduceLeDiff, Nat.reduceEqDiff, ↓reduceIte, Int.reduceLT, Int.reduceLE, Int.reduceToNat, Int.reduceEq, Int.reduceNe, Nat.reduceAdd, UInt8.reduceOfNat, UInt16.reduceOfNat, UInt32.reduceOfNat, UInt64.reduceOfNat, UInt64.reduceToNat, UInt32.reduceToNat, UInt16.reduceToNat, UInt8.reduceToNat, Int.reduceAdd, Int.reduceSub, Int.reduceMul, Nat.reduceMul, Qp0, Ql0, Qe0, g0, g4, g7]
      refine ⟨t.length, h3', by omega, PH.Le.refl _, t, d ++ [(four a x y z >>> 16).toUInt8, (four a x y z >>> 8).toUInt8, (four a x y z).toUInt8], cutAt b o 4 (decide (c = 4)), c - 4, o + 4, v', rfl, ?_, ?_, ?_, by simpa using hou', by simpa [decN] using hdec, by simp at hmod; omega, by simp at hbd ⊢; omega, by simp at hrc; omega, ?_, ?_⟩
      · first | rfl | (simp; done)
      · first | rfl | (simp; done)
      · first | rfl | (simp; done)
      · intro hp
        refine ⟨b, lim, ?_, hb⟩
        have : ¬ c = 4 := by simp at hrc; omega
        simp [cutAt, this]
      · have := congrArg (List.drop 4) hdr
        simpa [List.drop_drop, Nat.add_comm] using this
/-- The bytes of letters, or the place that can't be. -/
def firstBad : List UInt8 → Option Nat
  | [] => none
  | c :: t => if idx c < 0 then some 0 else (firstBad t).map (· + 1)
theorem firstBad_none : ∀ {s : List UInt8}, firstBad s = none → ∀ c ∈ s, 0 ≤ idx c
  | [], _, c, hc => by simp at hc
  | a :: t, h, c, hc => by
    unfold firstBad at h
    by_cases ha : idx a < 0
    · rw [if_pos ha] at h; cases h
    · rw [if_neg ha] at h
      rcases List.mem_cons.1 hc with rfl | hc
      · omega
      · exact firstBad_none (by simpa using h) c hc
theorem firstBad_some : ∀ {s : List UInt8} {q : Nat}, firstBad s = some q → q < s.length ∧ idx (s.getD q 0) < 0 ∧ ∀ j, j < q → 0 ≤ idx (s.getD j 0)
  | [], q, h => by cases h
  | a :: t, q, h => by
    unfold firstBad at h
    by_cases ha : idx a < 0
    · rw [if_pos ha] at h; cases h; exact ⟨by simp, ha, fun j hj => absurd hj (by omega)⟩
    · rw [if_neg ha] at h
      obtain ⟨r, hr, rfl⟩ := Option.map_eq_some_iff.1 h
      obtain ⟨h1, h2, h3⟩ := firstBad_some hr
      refine ⟨by simp; omega, by simpa using h2, fun j hj => ?_⟩
      cases j with
      | zero => simp; omega
      | succ j => simpa using h3 j (by omega)
def decR (s : List UInt8) : List UInt8 ⊕ Int := match firstBad s with
  | some q => .inr q
  | none => match decN (nums s) with
    | some out => .inl out
    | none => .inr (decEnd s)
def DecIs (s : List UInt8) (h : PH) (v : Value) (h' : PH) : Prop := match decR s with
  | .inl out => v = .tuple #[str out, .nilIface] ∧ h' = h
  | .inr a => ∃ be, v = .tuple #[str [], errV be] ∧ h.top ≤ be ∧ h' = h.new be ⟨[str textT, .int .i64 a, codeV 2], 3⟩
theorem decR_in {s out : List UInt8} (h : decR s = .inl out) : (∀ c ∈ s, 0 ≤ idx c) ∧ decN (nums s) = some out := by
  unfold decR at h
  cases hf : firstBad s with
  | some q => rw [hf] at h; cases h
  | none =>
    rw [hf] at h
    refine ⟨firstBad_none hf, ?_⟩
    cases hd : decN (nums s) with
    | none => rw [hd] at h; cases h
    | some o => rw [hd] at h; injection h with h; rw [h]
theorem dec_any (s : List UInt8) (w0 : World) (h : PH) (hs : s.length ≤ 4000000) : PCalls Try.prog w0 40 [str s] h (DecIs s h) := by
  unfold DecIs decR
  cases hf : firstBad s with
  | some q =>
    obtain ⟨h1, h2, h3⟩ := firstBad_some hf
    exact dec_bad1 s q h1 w0 h hs h3 h2
  | none =>
    have hg := firstBad_none hf
    cases hd : decN (nums s) with
    | some out => exact dec_good s out w0 h hs hg hd
    | none => exact dec_bad2 s w0 h hs hg hd
end Go.Proofs.Ytdlaoeepeakpeaa


/- Groups of six bits: plain facts. No condition. -/
namespace Go.Proofs.Ytdlaoeepeakpeaa.Tx
set_option linter.unusedVariables false
set_option linter.unusedSimpArgs false
def val (l : List Int) : Int := l.foldl (fun x b => x * 2 + b) 0
end Go.Proofs.Ytdlaoeepeakpeaa.Tx

