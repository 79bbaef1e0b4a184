/- Parts TaE, joined. No condition. -/
import Derived.Test.YtdhgmifgjaedbaaM11C
import Derived.Test.YtdhgmifgjaedbaaM12C
/- Walk: talk.Decode. No condition. -/
namespace Go.Proofs.Ytdhgmifgjaedbaa
set_option linter.unusedVariables false
set_option linter.unusedSimpArgs false
open Go.RowKit Px Wr
theorem no_m {d : Bd} (hd : d.Ok) {len : Nat} {s : List UInt8} {M : Ms} {st : St} (h : RunM d len s M st) (hb : st ≠ .ok [] ∨ rightM M = false) : ∀ m, rightM m = true → s ≠ bytesM m := fun m hr e => by
  subst e
  obtain ⟨h1, h2⟩ := h.fwd hd hr
  rcases hb with hb | hb
  · exact hb h2
  · rw [h1, hr] at hb; cases hb
def bdD : Bd := ⟨4, 65536, 32⟩
theorem bdD_ok : bdD.Ok := ⟨by show (4 : Int) ≤ 4; omega, by show (1000 : Int) ≤ 65536; omega, by show (32 : Int) ≤ 32; omega⟩
theorem info_ep : (Try.prog.info? 54).map (fun i => (i.zero, i.size, i.bytes)) = some (some (.agg #[.string ⟨#[]⟩, .int .i64 0]), 2, 24) := by kernel_rfl
theorem el_ep : El Try.prog 25 54 (.agg #[.string ⟨#[]⟩, .int .i64 0]) 2 24 := ⟨Try.underlying25, info_parts info_ep, rfl, by decide⟩
theorem IS.chgL {h h' : PH} {ib : Nat} {s : List UInt8} {st : St} {F : Nat → Prop} (i : IS h ib s st) (c : Chg F h h') (hL : ∀ x k, h.m x = some k → F x → k.lim ≠ 3) : IS h' ib s st := by
  cases st with
  | ok t => obtain ⟨a, h1, h2, h3⟩ := i; exact ⟨a, h1, h2, c.m _ _ h3 fun f => hL _ _ h3 f rfl⟩
  | bad p => obtain ⟨a, be, h1, h2, h3, h4⟩ := i; exact ⟨a, be, h1, h2, c.m _ _ h3 (fun f => hL _ _ h3 f rfl), c.m _ _ h4 (fun f => hL _ _ h4 f rfl)⟩
theorem Own.lim {h : PH} {sz n x : Nat} {v : Value} {xs : List Value} (o : Own h sz v n xs) (e : v.ownBlock = some x) : ∃ c, h.m x = some ⟨xs, c * sz⟩ := by
  rcases o.2 with ⟨h1, _⟩ | ⟨b, c, h1, _, _, h4⟩
  · rw [h1] at e; cases e
  · rw [h1] at e
    have hb : b = x := by simpa [Value.ownBlock] using e
    exact ⟨c, by rw [← hb]; exact h4⟩
theorem z7_one : allOne [.int .i64 0, .slice none 0 0, .slice none 0 0, .int .i64 0, .int .i64 0, .slice none 0 0, .int .i64 0] := allOne_of _ rfl
set_option maxRecDepth 20000 in
set_option maxHeartbeats 8000000 in
theorem dec23_any (s : List UInt8) (hs : s.length ≤ 1000000) (w0 : World) (h : PH) : PCalls Try.prog w0 15 [str s] h fun r h' => DEM w0 h' s r ∧ PH.Le h h' := by
  refine PCalls_upL fun q0 hlq hlow hut => ?_
  refine PCalls_body Try.func15 (by kernel_rfl) rfl _ Try.ntmps15 (by kernel_rfl) (by kernel_rfl) _ Try.results15 ?_
  have hs9 : s.length ≤ 1000000000 := by omega
  simp -dsimp -implicitDefEqProofs (disch := first | omega | assumption | (simp only [Option.isSome_some, Qt0]; done) | (simp only [UInt64.reduceToNat, UInt32.reduceToNat, UInt8.reduceToNat, List.length_cons, List.length_nil, List.length_append, Int.toNat_natCast] <;> omega) | fail) only [Nat.reduceLT, Nat.reduceLeDiff, Nat.reduceEqDiff, ↓reduceIte, Int.reduceLT, Int.reduceLE, Int.reduceToNat, Int.reduceEq, Int.reduceNe, Nat.reduceAdd, UInt8.reduceOfNat, UInt16.reduceOfNat, UInt32.reduceOfNat, UInt64.reduceOfNat, UInt64.reduceToNat, UInt32.reduceToNat, UInt16.reduceToNat, UInt8.reduceToNat, Int.reduceAdd, Int.reduceSub, Int.reduceMul, Nat.reduceMul, Qp0, Qp1, Ql0, Qe0]
  refine fun rb hrb => ?_
  have hrb0 : q0.top ≤ rb := hrb
  have hle := (PH.Le.refl q0).new rb ⟨[.int .i64 0, .slice none 0 0, .slice none 0 0, .int .i64 0, .int .i64 0, .slice none 0 0, .int .i64 0], 7⟩ hrb
  have hR0 : (q0.new rb ⟨[.int .i64 0, .slice none 0 0, .slice none 0 0, .int .i64 0, .int .i64 0, .slice none 0 0, .int .i64 0], 7⟩).m rb = some ⟨[.int .i64 0, .slice none 0 0, .slice none 0 0, .int .i64 0, .int .i64 0, .slice none 0 0, .int .i64 0], 7⟩ := by rw [PH.new_m, if_pos rfl]
  simp -dsimp -implicitDefEqProofs (disch := first | omega | assumption | (simp only [Option.isSome_some, Qt0]; done) | (simp only [UInt64.reduceToNat, UInt32.reduceToNat, UInt8.reduceToNat, List.length_cons, List.length_nil, List.length_append, Int.toNat_natCast] <;> omega) | fail) only [Nat.reduceLT, Nat.reduceLeDiff, Nat.reduceEqDiff, ↓reduceIte, Int.reduceLT, Int.reduceLE, Int.reduceToNat, Int.reduceEq, Int.reduceNe, Nat.reduceAdd, UInt8.reduceOfNat, UInt16.reduceOfNat, UInt32.reduceOfNat, UInt64.reduceOfNat, UInt64.reduceToNat, UInt32.reduceToNat, UInt16.reduceToNat, UInt8.reduceToNat, Int.reduceAdd, Int.reduceSub, Int.reduceMul, Nat.reduceMul, Qp0, Qp1, Ql0, Qe0]
  generalize q0.new rb ⟨[.int .i64 0, .slice none 0 0, .slice none 0 0, .int .i64 0, .int .i64 0, .slice none 0 0, .int .i64 0], 7⟩ = q1 at *
  refine (read_any w0 q1 s).mono ?_
  rintro z q2 ⟨ib, rfl, hib, hl2, hi⟩
  have hib0 : q0.top ≤ ib := Nat.le_trans hle.top hib
  have hne1 : rb ≠ ib := by have := q1.lt _ _ hR0; omega
  have hR0 := hl2.m _ _ hR0
  have hle := hle.trans hl2
  simp -dsimp -implicitDefEqProofs (disch := first | omega | assumption | (simp only [Option.isSome_some, Qt0]; done) | (simp only [UInt64.reduceToNat, UInt32.reduceToNat, UInt8.reduceToNat, List.length_cons, List.length_nil, List.length_append, Int.toNat_natCast] <;> omega) | fail) only [Nat.reduceLT, Nat.reduceLeDiff, Nat.reduceEqDiff, ↓reduceIte, Int.reduceLT, Int.reduceLE, Int.reduceToNat, Int.reduceEq, Int.reduceNe, Nat.reduceAdd, UInt8.reduceOfNat, UInt16.reduceOfNat, UInt32.reduceOfNat, UInt64.reduceOfNat, UInt64.reduceToNat, UInt32.reduceToNat, UInt16.reduceToNat, UInt8.reduceToNat, Int.reduceAdd, Int.reduceSub, Int.reduceMul, Nat.reduceMul, Qp0, Qp1, Ql0, Qe0]
  refine (inum_any w0 _ ib s hs9 4 _ hi).mono ?_
  rintro z q3 ⟨rfl, hi, hc⟩
  obtain ⟨⟨k, s1⟩, ek⟩ : ∃ p, p = numS 4 s.length (.ok s) := ⟨_, rfl⟩
  rw [← ek] at hi
  rw [← ek]
  simp only at hi
  have hR0 := hc.m _ _ hR0 hne1
  have hle := hle.chg hc fun x e => by rw [e]; exact hib0
  obtain ⟨K, hK⟩ : ∃ K : Int, (k : Int) = K := ⟨_, rfl⟩
  simp only [hK]
  have ha0 : allOne [.int .i64 K, .slice none 0 0, .slice none 0 0, .int .i64 0, .int .i64 0, .slice none 0 0, .int .i64 0] := allOne_of _ rfl
  simp -dsimp -implicitDefEqProofs (disch := first | omega | assumption | (simp only [Option.isSome_some, Qt0]; done) | (simp only [UInt64.reduceToNat, UInt32.reduceToNat, UInt8.reduceToNat, List.length_cons, List.length_nil, List.length_append, Int.toNat_natCast] <;> omega) | fail) only [Nat.reduceLT, Nat.reduceLeDiff, Nat.reduceEqDiff, ↓reduceIte, Int.reduceLT, Int.reduceLE, Int.reduceToNat, Int.reduceEq, Int.reduceNe, Nat.reduceAdd, UInt8.reduceOfNat, UInt16.reduceOfNat, UInt32.reduceOfNat, UInt64.reduceOfNat, UInt64.reduceToNat, UInt32.reduceToNat, UInt16.reduceToNat, UInt8.reduceToNat, Int.reduceAdd, Int.reduceSub, Int.reduceMul, Nat.reduceMul, Qp0, Qp1, Ql0, Qe0]
  refine fun mb hmb => ?_
  have hmb1 : q3.top ≤ mb := hmb
  have hmb0 : q0.top ≤ mb := Nat.le_trans hle.top hmb
  have hibl := ib_lt hi
  have hrbl := q3.lt _ _ hR0
  have hne2 : mb ≠ ib := by omega
  have hne3 : mb ≠ rb := by omega
  simp -dsimp -implicitDefEqProofs (disch := first | omega | assumption | (simp only [Option.isSome_some, Qt0]; done) | (simp only [UInt64.reduceToNat, UInt32.reduceToNat, UInt8.reduceToNat, List.length_cons, List.length_nil, List.length_append, Int.toNat_natCast] <;> omega) | fail) only [Nat.reduceLT, Nat.reduceLeDiff, Nat.reduceEqDiff, ↓reduceIte, Int.reduceLT, Int.reduceLE, Int.reduceToNat, Int.reduceEq, Int.reduceNe, Nat.reduceAdd, UInt8.reduceOfNat, UInt16.reduceOfNat, UInt32.reduceOfNat, UInt64.reduceOfNat, UInt64.reduceToNat, UInt32.reduceToNat, UInt16.reduceToNat, UInt8.reduceToNat, Int.reduceAdd, Int.reduceSub, Int.reduceMul, Nat.reduceMul, Qp0, Qp1, Ql0, Qe0, List.set_cons_zero, List.set_cons_succ, List.take_zero, List.drop_succ_cons, List.drop_zero, List.drop_nil, List.nil_append, List.append_nil, List.take_succ_cons, ite_true, PH.new_new]
  have hm : (q3.new mb ⟨[.int .i64 K, .slice none 0 0, .slice none 0 0, .int .i64 0, .int .i64 0, .slice none 0 0, .int .i64 0], 7⟩).m mb = some ⟨[.int .i64 K, .slice none 0 0, .slice none 0 0, .int .i64 0, .int .i64 0, .slice none 0 0, .int .i64 0], 7⟩ := by rw [PH.new_m, if_pos rfl]
  have hl4 := (PH.Le.refl q3).new mb ⟨[.int .i64 K, .slice none 0 0, .slice none 0 0, .int .i64 0, .int .i64 0, .slice none 0 0, .int .i64 0], 7⟩ hmb1
  generalize q3.new mb ⟨[.int .i64 K, .slice none 0 0, .slice none 0 0, .int .i64 0, .int .i64 0, .slice none 0 0, .int .i64 0], 7⟩ = q4 at *
  have hi := hi.more hl4
  have hR0 := hl4.m _ _ hR0
  have hle := hle.trans hl4
  have ek := ek.symm
  have hz7 := z7_one
  by_cases k2 : K = 2
  · subst k2
    obtain rfl : k = 2 := by omega
    simp -dsimp -implicitDefEqProofs (disch := first | omega | assumption | (simp only [Option.isSome_some, Qt0]; done) | (simp only [UInt64.reduceToNat, UInt32.reduceToNat, UInt8.reduceToNat, List.length_cons, List.length_nil, List.length_append, Int.toNat_natCast] <;> omega) | fail) only [Nat.reduceLT, Nat.reduceLeDiff, Nat.reduceEqDiff, ↓reduceIte, Int.reduceLT, Int.reduceLE, Int.reduceToNat, Int.reduceEq, Int.reduceNe, Nat.reduceAdd, UInt8.reduceOfNat, UInt16.reduceOfNat, UInt32.reduceOfNat, UInt64.reduceOfNat, UInt64.reduceToNat, UInt32.reduceToNat, UInt16.reduceToNat, UInt8.reduceToNat, Int.reduceAdd, Int.reduceSub, Int.reduceMul, Nat.reduceMul, Qp0, Qp1, Ql0, Qe0, rd_M, rdM_some, hm]
    refine (ivec_any w0 _ ib s hs9 _ hi).mono ?_
    rintro z q5 ⟨B, cb, rfl, how, hi⟩
    obtain ⟨⟨v, s2⟩, e2⟩ : ∃ p, p = vecS s.length s1 := ⟨_, rfl⟩
    rw [← e2] at hi how
    rw [← e2]
    simp only at hi how
    have hc := how.chg
    have hcb : v.length ≤ cb := by obtain ⟨_, _, hA, hcap⟩ := how.own.len; injection hA with hA1 hA2 hA3; omega
    have hv16 := vecS_len e2
    have hnB : ∀ a, B = some a → a.block ≠ ib ∧ a.block ≠ mb ∧ a.block ≠ rb := fun a ea => by
      have h5 := how.new _ (how.own.A a ea)
      have h6 := ib_lt (hi)
      have h7 := q4.lt _ _ hm
      have h8 := q4.lt _ _ hR0
      have h9 := hl4.top
      refine ⟨?_, ?_, ?_⟩ <;> omega
    have hrv : Rv w0 q5 B (ints v) := how.rv
    have hm := hc.m _ _ hm hne2
    have hR0 := hc.m _ _ hR0 hne1
    have hle := hle.chg hc fun x e => by rw [e]; exact hib0
    clear how
    simp -dsimp -implicitDefEqProofs (disch := first | omega | assumption | (simp only [Option.isSome_some, Qt0]; done) | (simp only [UInt64.reduceToNat, UInt32.reduceToNat, UInt8.reduceToNat, List.length_cons, List.length_nil, List.length_append, Int.toNat_natCast] <;> omega) | fail) only [Nat.reduceLT, Nat.reduceLeDiff, Nat.reduceEqDiff, ↓reduceIte, Int.reduceLT, Int.reduceLE, Int.reduceToNat, Int.reduceEq, Int.reduceNe, Nat.reduceAdd, UInt8.reduceOfNat, UInt16.reduceOfNat, UInt32.reduceOfNat, UInt64.reduceOfNat, UInt64.reduceToNat, UInt32.reduceToNat, UInt16.reduceToNat, UInt8.reduceToNat, Int.reduceAdd, Int.reduceSub, Int.reduceMul, Nat.reduceMul, Qp0, Qp1, Ql0, Qe0, rd_M, rdM_some, hm, List.set_cons_zero, List.set_cons_succ, List.take_zero, List.drop_succ_cons, List.drop_zero, List.drop_nil, List.nil_append, List.append_nil, List.take_succ_cons, ite_true, PH.new_new]
    have hi := IS_put hi hm (show (7 : Nat) ≠ 3 by omega) ⟨[.int .i64 2, .slice none 0 0, .slice B v.length cb, .int .i64 0, .int .i64 0, .slice none 0 0, .int .i64 0], 7⟩
    have hR0 : (q5.new mb ⟨[.int .i64 2, .slice none 0 0, .slice B v.length cb, .int .i64 0, .int .i64 0, .slice none 0 0, .int .i64 0], 7⟩).m rb = some ⟨[.int .i64 0, .slice none 0 0, .slice none 0 0, .int .i64 0, .int .i64 0, .slice none 0 0, .int .i64 0], 7⟩ := by rw [PH.new_m, if_neg (Ne.symm hne3)]; exact hR0
    have hle := hle.new mb ⟨[.int .i64 2, .slice none 0 0, .slice B v.length cb, .int .i64 0, .int .i64 0, .slice none 0 0, .int .i64 0], 7⟩ hmb0
    have hm : (q5.new mb ⟨[.int .i64 2, .slice none 0 0, .slice B v.length cb, .int .i64 0, .int .i64 0, .slice none 0 0, .int .i64 0], 7⟩).m mb = some ⟨[.int .i64 2, .slice none 0 0, .slice B v.length cb, .int .i64 0, .int .i64 0, .slice none 0 0, .int .i64 0], 7⟩ := by rw [PH.new_m, if_pos rfl]
    have hrv := hrv.chg (F := (· = mb)) ((Chg.refl (· = mb) q5).one ⟨[.int .i64 2, .slice none 0 0, .slice B v.length cb, .int .i64 0, .int .i64 0, .slice none 0 0, .int .i64 0], 7⟩) (fun a ea e => (hnB a ea).2.1 e)
    generalize q5.new mb ⟨[.int .i64 2, .slice none 0 0, .slice B v.length cb, .int .i64 0, .int .i64 0, .slice none 0 0, .int .i64 0], 7⟩ = p5 at *
    try simp -dsimp -implicitDefEqProofs (disch := first | omega | assumption | (simp only [Option.isSome_some, Qt0]; done) | (simp only [UInt64.reduceToNat, UInt32.reduceToNat, UInt8.reduceToNat, List.length_cons, List.length_nil, List.length_append, Int.toNat_natCast] <;> omega) | fail) only [Nat.reduceLT, Nat.reduceLeDiff, Nat.reduceEqDiff, ↓reduceIte, Int.reduceLT, Int.reduceLE, Int.reduceToNat, Int.reduceEq, Int.reduceNe, Nat.reduceAdd, UInt8.reduceOfNat, UInt16.reduceOfNat, UInt32.reduceOfNat, UInt64.reduceOfNat, UInt64.reduceToNat, UInt32.reduceToNat, UInt16.reduceToNat, UInt8.reduceToNat, Int.reduceAdd, Int.reduceSub, Int.reduceMul, Nat.reduceMul, Qp0, Qp1, Ql0, Qe0, rd_M, rdM_some, hm]
    refine (inum_any w0 _ ib s hs9 1099511627776 _ hi).mono ?_
    rintro z p6 ⟨rfl, hi, hc⟩
    obtain ⟨⟨c, s3⟩, e3⟩ : ∃ p, p = numS 1099511627776 s.length s2 := ⟨_, rfl⟩
    rw [← e3] at hi
    rw [← e3]
    simp only at hi
    have hR0 := hc.m _ _ hR0 hne1
    have hm := hc.m _ _ hm hne2
    have hle := hle.chg hc fun x e => by rw [e]; exact hib0
    have hrv := hrv.chg hc (fun a ea e => (hnB a ea).1 e)
    simp -dsimp -implicitDefEqProofs (disch := first | omega | assumption | (simp only [Option.isSome_some, Qt0]; done) | (simp only [UInt64.reduceToNat, UInt32.reduceToNat, UInt8.reduceToNat, List.length_cons, List.length_nil, List.length_append, Int.toNat_natCast] <;> omega) | fail) only [Nat.reduceLT, Nat.reduceLeDiff, Nat.reduceEqDiff, ↓reduceIte, Int.reduceLT, Int.reduceLE, Int.reduceToNat, Int.reduceEq, Int.reduceNe, Nat.reduceAdd, UInt8.reduceOfNat, UInt16.reduceOfNat, UInt32.reduceOfNat, UInt64.reduceOfNat, UInt64.reduceToNat, UInt32.reduceToNat, UInt16.reduceToNat, UInt8.reduceToNat, Int.reduceAdd, Int.reduceSub, Int.reduceMul, Nat.reduceMul, Qp0, Qp1, Ql0, Qe0, rd_M, rdM_some, hm, List.set_cons_zero, List.set_cons_succ, List.take_zero, List.drop_succ_cons, List.drop_zero, List.drop_nil, List.nil_append, List.append_nil, List.take_succ_cons, ite_true, PH.new_new]
    have hi := IS_put hi hm (show (7 : Nat) ≠ 3 by omega) ⟨[.int .i64 2, .slice none 0 0, .slice B v.length cb, .int .i64 c, .int .i64 0, .slice none 0 0, .int .i64 0], 7⟩
    have hR0 : (p6.new mb ⟨[.int .i64 2, .slice none 0 0, .slice B v.length cb, .int .i64 c, .int .i64 0, .slice none 0 0, .int .i64 0], 7⟩).m rb = some ⟨[.int .i64 0, .slice none 0 0, .slice none 0 0, .int .i64 0, .int .i64 0, .slice none 0 0, .int .i64 0], 7⟩ := by rw [PH.new_m, if_neg (Ne.symm hne3)]; exact hR0
    have hle := hle.new mb ⟨[.int .i64 2, .slice none 0 0, .slice B v.length cb, .int .i64 c, .int .i64 0, .slice none 0 0, .int .i64 0], 7⟩ hmb0
    have hm : (p6.new mb ⟨[.int .i64 2, .slice none 0 0, .slice B v.length cb, .int .i64 c, .int .i64 0, .slice none 0 0, .int .i64 0], 7⟩).m mb = some ⟨[.int .i64 2, .slice none 0 0, .slice B v.length cb, .int .i64 c, .int .i64 0, .slice none 0 0, .int .i64 0], 7⟩ := by rw [PH.new_m, if_pos rfl]
    have hrv := hrv.chg (F := (· = mb)) ((Chg.refl (· = mb) p6).one ⟨[.int .i64 2, .slice none 0 0, .slice B v.length cb, .int .i64 c, .int .i64 0, .slice none 0 0, .int .i64 0], 7⟩) (fun a ea e => (hnB a ea).2.1 e)
    generalize p6.new mb ⟨[.int .i64 2, .slice none 0 0, .slice B v.length cb, .int .i64 c, .int .i64 0, .slice none 0 0, .int .i64 0], 7⟩ = p7 at *
    have hRM : MsR w0 p7 ⟨2, [], v, c, 0, [], 0⟩ ⟨[], none, B, none, 0, cb, 0⟩ := ⟨rfl, (fun y hy => by cases hy), Rv.nil _ _ _, hrv, Rv.nil _ _ _, Nat.le_refl _, hcb, Nat.le_refl _⟩
    have hFM : Fits ⟨2, [], v, c, 0, [], 0⟩ := ⟨by simp, by show v.length ≤ 1000; omega, by simp, fun x hx => by simp at hx, fun x hx => by simp at hx⟩
    have hrun : RunM bdD s.length s ⟨2, [], v, c, 0, [], 0⟩ _ := ⟨2, s1, ek, .inr (.inl ⟨rfl, v, s2, c, e2.symm, e3.symm, rfl⟩)⟩
    have haM : allOne [.int .i64 2, .slice none 0 0, .slice B v.length cb, .int .i64 c, .int .i64 0, .slice none 0 0, .int .i64 0] := allOne_of _ rfl
    try simp -dsimp -implicitDefEqProofs (disch := first | omega | assumption | (simp only [Option.isSome_some, Qt0]; done) | (simp only [UInt64.reduceToNat, UInt32.reduceToNat, UInt8.reduceToNat, List.length_cons, List.length_nil, List.length_append, Int.toNat_natCast] <;> omega) | fail) only [Nat.reduceLT, Nat.reduceLeDiff, Nat.reduceEqDiff, ↓reduceIte, Int.reduceLT, Int.reduceLE, Int.reduceToNat, Int.reduceEq, Int.reduceNe, Nat.reduceAdd, UInt8.reduceOfNat, UInt16.reduceOfNat, UInt32.reduceOfNat, UInt64.reduceOfNat, UInt64.reduceToNat, UInt32.reduceToNat, UInt16.reduceToNat, UInt8.reduceToNat, Int.reduceAdd, Int.reduceSub, Int.reduceMul, Nat.reduceMul, Qp0, Qp1, Ql0, Qe0, rd_M, rdM_some, hm]
    refine (end_any w0 p7 ib s _ hi).mono ?_
    rintro z q8 ⟨he, hl8⟩
    have hm8 := hl8.m _ _ hm
    have hr8 := hl8.m _ _ hR0
    have hC8 : rdN w0 q8 ⟨mb, 0, none⟩ 7 = some [.int .i64 2, .slice none 0 0, .slice B v.length cb, .int .i64 c, .int .i64 0, .slice none 0 0, .int .i64 0] := by unfold rdN; simp only [hm8]; rfl
    have hR8 := hRM.more hl8
    have hle8 := hle.trans hl8
    rcases EE_told he with ⟨hok, rfl⟩ | ⟨hn, be, pe, rfl, hbe⟩
    · have hRt := right_any w0 q8 _ _ hR8 hFM
      unfold msL at hRt
      simp only [List.length_nil] at hRt
      cases hr : rightM ⟨2, [], v, c, 0, [], 0⟩ with
      | true =>
        rw [hr] at hRt
        simp -dsimp -implicitDefEqProofs (disch := first | omega | assumption | (simp only [Option.isSome_some, Qt0]; done) | (simp only [UInt64.reduceToNat, UInt32.reduceToNat, UInt8.reduceToNat, List.length_cons, List.length_nil, List.length_append, Int.toNat_natCast] <;> omega) | fail) only [Nat.reduceLT, Nat.reduceLeDiff, Nat.reduceEqDiff, ↓reduceIte, Int.reduceLT, Int.reduceLE, Int.reduceToNat, Int.reduceEq, Int.reduceNe, Nat.reduceAdd, UInt8.reduceOfNat, UInt16.reduceOfNat, UInt32.reduceOfNat, UInt64.reduceOfNat, UInt64.reduceToNat, UInt32.reduceToNat, UInt16.reduceToNat, UInt8.reduceToNat, Int.reduceAdd, Int.reduceSub, Int.reduceMul, Nat.reduceMul, Qp0, Qp1, Ql0, Qe0, hC8]
        refine hRt.mono ?_
        rintro z q9 ⟨rfl, hl9⟩
        have hr9 := hl9.m _ _ hr8
        have hm9 := hl9.m _ _ hm8
        have hC9 : rdN w0 q9 ⟨mb, 0, none⟩ 7 = some [.int .i64 2, .slice none 0 0, .slice B v.length cb, .int .i64 c, .int .i64 0, .slice none 0 0, .int .i64 0] := by unfold rdN; simp only [hm9]; rfl
        have hR9 := hR8.more hl9
        simp -dsimp -implicitDefEqProofs (disch := first | omega | assumption | (simp only [Option.isSome_some, Qt0]; done) | (simp only [UInt64.reduceToNat, UInt32.reduceToNat, UInt8.reduceToNat, List.length_cons, List.length_nil, List.length_append, Int.toNat_natCast] <;> omega) | fail) only [Nat.reduceLT, Nat.reduceLeDiff, Nat.reduceEqDiff, ↓reduceIte, Int.reduceLT, Int.reduceLE, Int.reduceToNat, Int.reduceEq, Int.reduceNe, Nat.reduceAdd, UInt8.reduceOfNat, UInt16.reduceOfNat, UInt32.reduceOfNat, UInt64.reduceOfNat, UInt64.reduceToNat, UInt32.reduceToNat, UInt16.reduceToNat, UInt8.reduceToNat, Int.reduceAdd, Int.reduceSub, Int.reduceMul, Nat.reduceMul, Qp0, Qp1, Ql0, Qe0, hC9, hr9, rdN_new, List.set_cons_zero, List.set_cons_succ, List.take_zero, List.drop_succ_cons, List.drop_zero, List.drop_nil, List.nil_append, List.append_nil, List.take_succ_cons, ite_true, PH.new_new]
        refine ⟨_, PH.Le.refl _, .inl ⟨⟨2, [], v, c, 0, [], 0⟩, ⟨[], none, B, none, 0, cb, 0⟩, hr, by rw [hok] at hrun; exact hrun.back hr, by first | rfl | trivial, ?_, hFM⟩, hlq.trans ((hle8.trans hl9).new _ _ hrb0)⟩
        exact hR9.chg (F := (· = rb)) ((Chg.refl _ _).one _) (fun a e => by cases e) (fun a e => (hnB a e).2.2) (fun a e => by cases e) (fun y hy => by cases hy)
      | false =>
        rw [hr] at hRt
        simp -dsimp -implicitDefEqProofs (disch := first | omega | assumption | (simp only [Option.isSome_some, Qt0]; done) | (simp only [UInt64.reduceToNat, UInt32.reduceToNat, UInt8.reduceToNat, List.length_cons, List.length_nil, List.length_append, Int.toNat_natCast] <;> omega) | fail) only [Nat.reduceLT, Nat.reduceLeDiff, Nat.reduceEqDiff, ↓reduceIte, Int.reduceLT, Int.reduceLE, Int.reduceToNat, Int.reduceEq, Int.reduceNe, Nat.reduceAdd, UInt8.reduceOfNat, UInt16.reduceOfNat, UInt32.reduceOfNat, UInt64.reduceOfNat, UInt64.reduceToNat, UInt32.reduceToNat, UInt16.reduceToNat, UInt8.reduceToNat, Int.reduceAdd, Int.reduceSub, Int.reduceMul, Nat.reduceMul, Qp0, Qp1, Ql0, Qe0, hC8]
        refine hRt.mono ?_
        rintro z q9 ⟨rfl, hl9⟩
        have hr9 := hl9.m _ _ hr8
        simp -dsimp -implicitDefEqProofs (disch := first | omega | assumption | (simp only [Option.isSome_some, Qt0]; done) | (simp only [UInt64.reduceToNat, UInt32.reduceToNat, UInt8.reduceToNat, List.length_cons, List.length_nil, List.length_append, Int.toNat_natCast] <;> omega) | fail) only [Nat.reduceLT, Nat.reduceLeDiff, Nat.reduceEqDiff, ↓reduceIte, Int.reduceLT, Int.reduceLE, Int.reduceToNat, Int.reduceEq, Int.reduceNe, Nat.reduceAdd, UInt8.reduceOfNat, UInt16.reduceOfNat, UInt32.reduceOfNat, UInt64.reduceOfNat, UInt64.reduceToNat, UInt32.reduceToNat, UInt16.reduceToNat, UInt8.reduceToNat, Int.reduceAdd, Int.reduceSub, Int.reduceMul, Nat.reduceMul, Qp0, Qp1, Ql0, Qe0]
        refine (tbad_any 2 w0 _).mono ?_
        rintro z qa ⟨⟨be, rfl, hbm⟩, hla⟩
        have hra := hla.m _ _ hr9
        have hnb : be ≠ rb := fun e => by
          rw [e, hra] at hbm
          injection hbm with hbm
          injection hbm with _ hbm
          omega
        unfold errV
        simp -dsimp -implicitDefEqProofs (disch := first | omega | assumption | (simp only [Option.isSome_some, Qt0]; done) | (simp only [UInt64.reduceToNat, UInt32.reduceToNat, UInt8.reduceToNat, List.length_cons, List.length_nil, List.length_append, Int.toNat_natCast] <;> omega) | fail) only [Nat.reduceLT, Nat.reduceLeDiff, Nat.reduceEqDiff, ↓reduceIte, Int.reduceLT, Int.reduceLE, Int.reduceToNat, Int.reduceEq, Int.reduceNe, Nat.reduceAdd, UInt8.reduceOfNat, UInt16.reduceOfNat, UInt32.reduceOfNat, UInt64.reduceOfNat, UInt64.reduceToNat, UInt32.reduceToNat, UInt16.reduceToNat, UInt8.reduceToNat, Int.reduceAdd, Int.reduceSub, Int.reduceMul, Nat.reduceMul, Qp0, Qp1, Ql0, Qe0, hra, rdN_new, List.set_cons_zero, List.set_cons_succ, List.take_zero, List.drop_succ_cons, List.drop_zero, List.drop_nil, List.nil_append, List.append_nil, List.take_succ_cons, ite_true, PH.new_new]
        exact ⟨_, PH.Le.refl _, .inr ⟨no_m bdD_ok hrun (.inr hr), _, .wrap talkT 0 (.code 2), by first | rfl | trivial, ⟨be, _, rfl, by rw [PH.new_m, if_neg hnb]; exact hbm, rfl⟩, rfl⟩, hlq.trans (((hle8.trans hl9).trans hla).new _ _ hrb0)⟩
    · unfold errV
      simp -dsimp -implicitDefEqProofs (disch := first | omega | assumption | (simp only [Option.isSome_some, Qt0]; done) | (simp only [UInt64.reduceToNat, UInt32.reduceToNat, UInt8.reduceToNat, List.length_cons, List.length_nil, List.length_append, Int.toNat_natCast] <;> omega) | fail) only [Nat.reduceLT, Nat.reduceLeDiff, Nat.reduceEqDiff, ↓reduceIte, Int.reduceLT, Int.reduceLE, Int.reduceToNat, Int.reduceEq, Int.reduceNe, Nat.reduceAdd, UInt8.reduceOfNat, UInt16.reduceOfNat, UInt32.reduceOfNat, UInt64.reduceOfNat, UInt64.reduceToNat, UInt32.reduceToNat, UInt16.reduceToNat, UInt8.reduceToNat, Int.reduceAdd, Int.reduceSub, Int.reduceMul, Nat.reduceMul, Qp0, Qp1, Ql0, Qe0]
      refine (tbad_any 2 w0 _).mono ?_
      rintro z qa ⟨⟨be2, rfl, hbm⟩, hla⟩
      have hra := hla.m _ _ hr8
      have hnb : be2 ≠ rb := fun e => by
        rw [e, hra] at hbm
        injection hbm with hbm
        injection hbm with _ hbm
        omega
      unfold errV
      simp -dsimp -implicitDefEqProofs (disch := first | omega | assumption | (simp only [Option.isSome_some, Qt0]; done) | (simp only [UInt64.reduceToNat, UInt32.reduceToNat, UInt8.reduceToNat, List.length_cons, List.length_nil, List.length_append, Int.toNat_natCast] <;> omega) | fail) only [Nat.reduceLT, Nat.reduceLeDiff, Nat.reduceEqDiff, ↓reduceIte, Int.reduceLT, Int.reduceLE, Int.reduceToNat, Int.reduceEq, Int.reduceNe, Nat.reduceAdd, UInt8.reduceOfNat, UInt16.reduceOfNat, UInt32.reduceOfNat, UInt64.reduceOfNat, UInt64.reduceToNat, UInt32.reduceToNat, UInt16.reduceToNat, UInt8.reduceToNat, Int.reduceAdd, Int.reduceSub, Int.reduceMul, Nat.reduceMul, Qp0, Qp1, Ql0, Qe0, hra, rdN_new, List.set_cons_zero, List.set_cons_succ, List.take_zero, List.drop_succ_cons, List.drop_zero, List.drop_nil, List.nil_append, List.append_nil, List.take_succ_cons, ite_true, PH.new_new]
      exact ⟨_, PH.Le.refl _, .inr ⟨no_m bdD_ok hrun (.inl hn), _, .wrap talkT 0 (.code 2), by first | rfl | trivial, ⟨be2, _, rfl, by rw [PH.new_m, if_neg hnb]; exact hbm, rfl⟩, rfl⟩, hlq.trans ((hle8.trans hla).new _ _ hrb0)⟩
  by_cases k3 : K = 3
  · subst k3
    obtain rfl : k = 3 := by omega
    simp -dsimp -implicitDefEqProofs (disch := first | omega | assumption | (simp only [Option.isSome_some, Qt0]; done) | (simp only [UInt64.reduceToNat, UInt32.reduceToNat, UInt8.reduceToNat, List.length_cons, List.length_nil, List.length_append, Int.toNat_natCast] <;> omega) | fail) only [Nat.reduceLT, Nat.reduceLeDiff, Nat.reduceEqDiff, ↓reduceIte, Int.reduceLT, Int.reduceLE, Int.reduceToNat, Int.reduceEq, Int.reduceNe, Nat.reduceAdd, UInt8.reduceOfNat, UInt16.reduceOfNat, UInt32.reduceOfNat, UInt64.reduceOfNat, UInt64.reduceToNat, UInt32.reduceToNat, UInt16.reduceToNat, UInt8.reduceToNat, Int.reduceAdd, Int.reduceSub, Int.reduceMul, Nat.reduceMul, Qp0, Qp1, Ql0, Qe0, rd_M, rdM_some, hm]
    refine (inum_any w0 _ ib s hs9 1099511627776 _ hi).mono ?_
    rintro z p8 ⟨rfl, hi, hc⟩
    obtain ⟨⟨t, s2⟩, e2⟩ : ∃ p, p = numS 1099511627776 s.length s1 := ⟨_, rfl⟩
    rw [← e2] at hi
    rw [← e2]
    simp only at hi
    have hR0 := hc.m _ _ hR0 hne1
    have hm := hc.m _ _ hm hne2
    have hle := hle.chg hc fun x e => by rw [e]; exact hib0
    simp -dsimp -implicitDefEqProofs (disch := first | omega | assumption | (simp only [Option.isSome_some, Qt0]; done) | (simp only [UInt64.reduceToNat, UInt32.reduceToNat, UInt8.reduceToNat, List.length_cons, List.length_nil, List.length_append, Int.toNat_natCast] <;> omega) | fail) only [Nat.reduceLT, Nat.reduceLeDiff, Nat.reduceEqDiff, ↓reduceIte, Int.reduceLT, Int.reduceLE, Int.reduceToNat, Int.reduceEq, Int.reduceNe, Nat.reduceAdd, UInt8.reduceOfNat, UInt16.reduceOfNat, UInt32.reduceOfNat, UInt64.reduceOfNat, UInt64.reduceToNat, UInt32.reduceToNat, UInt16.reduceToNat, UInt8.reduceToNat, Int.reduceAdd, Int.reduceSub, Int.reduceMul, Nat.reduceMul, Qp0, Qp1, Ql0, Qe0, rd_M, rdM_some, hm, List.set_cons_zero, List.set_cons_succ, List.take_zero, List.drop_succ_cons, List.drop_zero, List.drop_nil, List.nil_append, List.append_nil, List.take_succ_cons, ite_true, PH.new_new]
    have hi := IS_put hi hm (show (7 : Nat) ≠ 3 by omega) ⟨[.int .i64 3, .slice none 0 0, .slice none 0 0, .int .i64 0, .int .i64 t, .slice none 0 0, .int .i64 0], 7⟩
    have hR0 : (p8.new mb ⟨[.int .i64 3, .slice none 0 0, .slice none 0 0, .int .i64 0, .int .i64 t, .slice none 0 0, .int .i64 0], 7⟩).m rb = some ⟨[.int .i64 0, .slice none 0 0, .slice none 0 0, .int .i64 0, .int .i64 0, .slice none 0 0, .int .i64 0], 7⟩ := by rw [PH.new_m, if_neg (Ne.symm hne3)]; exact hR0
    have hle := hle.new mb ⟨[.int .i64 3, .slice none 0 0, .slice none 0 0, .int .i64 0, .int .i64 t, .slice none 0 0, .int .i64 0], 7⟩ hmb0
    have hm : (p8.new mb ⟨[.int .i64 3, .slice none 0 0, .slice none 0 0, .int .i64 0, .int .i64 t, .slice none 0 0, .int .i64 0], 7⟩).m mb = some ⟨[.int .i64 3, .slice none 0 0, .slice none 0 0, .int .i64 0, .int .i64 t, .slice none 0 0, .int .i64 0], 7⟩ := by rw [PH.new_m, if_pos rfl]
    generalize p8.new mb ⟨[.int .i64 3, .slice none 0 0, .slice none 0 0, .int .i64 0, .int .i64 t, .slice none 0 0, .int .i64 0], 7⟩ = p9 at *
    have hRM : MsR w0 p9 ⟨3, [], [], 0, t, [], 0⟩ mpZ := ⟨rfl, (fun y hy => by cases hy), Rv.nil _ _ _, Rv.nil _ _ _, Rv.nil _ _ _, Nat.le_refl _, Nat.le_refl _, Nat.le_refl _⟩
    have hFM : Fits ⟨3, [], [], 0, t, [], 0⟩ := ⟨by simp, by simp, by simp, fun x hx => by simp at hx, fun x hx => by simp at hx⟩
    have hrun : RunM bdD s.length s ⟨3, [], [], 0, t, [], 0⟩ _ := ⟨3, s1, ek, .inr (.inr (.inl ⟨rfl, t, e2.symm, rfl⟩))⟩
    have haM : allOne [.int .i64 3, .slice none 0 0, .slice none 0 0, .int .i64 0, .int .i64 t, .slice none 0 0, .int .i64 0] := allOne_of _ rfl
    try simp -dsimp -implicitDefEqProofs (disch := first | omega | assumption | (simp only [Option.isSome_some, Qt0]; done) | (simp only [UInt64.reduceToNat, UInt32.reduceToNat, UInt8.reduceToNat, List.length_cons, List.length_nil, List.length_append, Int.toNat_natCast] <;> omega) | fail) only [Nat.reduceLT, Nat.reduceLeDiff, Nat.reduceEqDiff, ↓reduceIte, Int.reduceLT, Int.reduceLE, Int.reduceToNat, Int.reduceEq, Int.reduceNe, Nat.reduceAdd, UInt8.reduceOfNat, UInt16.reduceOfNat, UInt32.reduceOfNat, UInt64.reduceOfNat, UInt64.reduceToNat, UInt32.reduceToNat, UInt16.reduceToNat, UInt8.reduceToNat, Int.reduceAdd, Int.reduceSub, Int.reduceMul, Nat.reduceMul, Qp0, Qp1, Ql0, Qe0, rd_M, rdM_some, hm]
    refine (end_any w0 p9 ib s _ hi).mono ?_
    rintro z q8 ⟨he, hl8⟩
    have hm8 := hl8.m _ _ hm
    have hr8 := hl8.m _ _ hR0
    have hC8 : rdN w0 q8 ⟨mb, 0, none⟩ 7 = some [.int .i64 3, .slice none 0 0, .slice none 0 0, .int .i64 0, .int .i64 t, .slice none 0 0, .int .i64 0] := by unfold rdN; simp only [hm8]; rfl
    have hR8 := hRM.more hl8
    have hle8 := hle.trans hl8
    rcases EE_told he with ⟨hok, rfl⟩ | ⟨hn, be, pe, rfl, hbe⟩
    · have hRt := right_any w0 q8 _ _ hR8 hFM
      unfold msL at hRt
      simp only [List.length_nil] at hRt
      cases hr : rightM ⟨3, [], [], 0, t, [], 0⟩ with
      | true =>
        rw [hr] at hRt
        simp -dsimp -implicitDefEqProofs (disch := first | omega | assumption | (simp only [Option.isSome_some, Qt0]; done) | (simp only [UInt64.reduceToNat, UInt32.reduceToNat, UInt8.reduceToNat, List.length_cons, List.length_nil, List.length_append, Int.toNat_natCast] <;> omega) | fail) only [Nat.reduceLT, Nat.reduceLeDiff, Nat.reduceEqDiff, ↓reduceIte, Int.reduceLT, Int.reduceLE, Int.reduceToNat, Int.reduceEq, Int.reduceNe, Nat.reduceAdd, UInt8.reduceOfNat, UInt16.reduceOfNat, UInt32.reduceOfNat, UInt64.reduceOfNat, UInt64.reduceToNat, UInt32.reduceToNat, UInt16.reduceToNat, UInt8.reduceToNat, Int.reduceAdd, Int.reduceSub, Int.reduceMul, Nat.reduceMul, Qp0, Qp1, Ql0, Qe0, hC8]
        refine hRt.mono ?_
        rintro z q9 ⟨rfl, hl9⟩
        have hr9 := hl9.m _ _ hr8
        have hm9 := hl9.m _ _ hm8
        have hC9 : rdN w0 q9 ⟨mb, 0, none⟩ 7 = some [.int .i64 3, .slice none 0 0, .slice none 0 0, .int .i64 0, .int .i64 t, .slice none 0 0, .int .i64 0] := by unfold rdN; simp only [hm9]; rfl
        have hR9 := hR8.more hl9
        simp -dsimp -implicitDefEqProofs (disch := first | omega | assumption | (simp only [Option.isSome_some, Qt0]; done) | (simp only [UInt64.reduceToNat, UInt32.reduceToNat, UInt8.reduceToNat, List.length_cons, List.length_nil, List.length_append, Int.toNat_natCast] <;> omega) | fail) only [Nat.reduceLT, Nat.reduceLeDiff, Nat.reduceEqDiff, ↓reduceIte, Int.reduceLT, Int.reduceLE, Int.reduceToNat, Int.reduceEq, Int.reduceNe, Nat.reduceAdd, UInt8.reduceOfNat, UInt16.reduceOfNat, UInt32.reduceOfNat, UInt64.reduceOfNat, UInt64.reduceToNat, UInt32.reduceToNat, UInt16.reduceToNat, UInt8.reduceToNat, Int.reduceAdd, Int.reduceSub, Int.reduceMul, Nat.reduceMul, Qp0, Qp1, Ql0, Qe0, hC9, hr9, rdN_new, List.set_cons_zero, List.set_cons_succ, List.take_zero, List.drop_succ_cons, List.drop_zero, List.drop_nil, List.nil_append, List.append_nil, List.take_succ_cons, ite_true, PH.new_new]
        refine ⟨_, PH.Le.refl _, .inl ⟨⟨3, [], [], 0, t, [], 0⟩, mpZ, hr, by rw [hok] at hrun; exact hrun.back hr, by first | rfl | trivial, ?_, hFM⟩, hlq.trans ((hle8.trans hl9).new _ _ hrb0)⟩
        exact hR9.chg (F := (· = rb)) ((Chg.refl _ _).one _) (fun a e => by cases e) (fun a e => by cases e) (fun a e => by cases e) (fun y hy => by cases hy)
      | false =>
        rw [hr] at hRt
        simp -dsimp -implicitDefEqProofs (disch := first | omega | assumption | (simp only [Option.isSome_some, Qt0]; done) | (simp only [UInt64.reduceToNat, UInt32.reduceToNat, UInt8.reduceToNat, List.length_cons, List.length_nil, List.length_append, Int.toNat_natCast] <;> omega) | fail) only [Nat.reduceLT, Nat.reduceLeDiff, Nat.reduceEqDiff, ↓reduceIte, Int.reduceLT, Int.reduceLE, Int.reduceToNat, Int.reduceEq, Int.reduceNe, Nat.reduceAdd, UInt8.reduceOfNat, UInt16.reduceOfNat, UInt32.reduceOfNat, UInt64.reduceOfNat, UInt64.reduceToNat, UInt32.reduceToNat, UInt16.reduceToNat, UInt8.reduceToNat, Int.reduceAdd, Int.reduceSub, Int.reduceMul, Nat.reduceMul, Qp0, Qp1, Ql0, Qe0, hC8]
        refine hRt.mono ?_
        rintro z q9 ⟨rfl, hl9⟩
        have hr9 := hl9.m _ _ hr8
        simp -dsimp -implicitDefEqProofs (disch := first | omega | assumption | (simp only [Option.isSome_some, Qt0]; done) | (simp only [UInt64.reduceToNat, UInt32.reduceToNat, UInt8.reduceToNat, List.length_cons, List.length_nil, List.length_append, Int.toNat_natCast] <;> omega) | fail) only [Nat.reduceLT, Nat.reduceLeDiff, Nat.reduceEqDiff, ↓reduceIte, Int.reduceLT, Int.reduceLE, Int.reduceToNat, Int.reduceEq, Int.reduceNe, Nat.reduceAdd, UInt8.reduceOfNat, UInt16.reduceOfNat, UInt32.reduceOfNat, UInt64.reduceOfNat, UInt64.reduceToNat, UInt32.reduceToNat, UInt16.reduceToNat, UInt8.reduceToNat, Int.reduceAdd, Int.reduceSub, Int.reduceMul, Nat.reduceMul, Qp0, Qp1, Ql0, Qe0]
        refine (tbad_any 2 w0 _).mono ?_
        rintro z qa ⟨⟨be, rfl, hbm⟩, hla⟩
        have hra := hla.m _ _ hr9
        have hnb : be ≠ rb := fun e => by
          rw [e, hra] at hbm
          injection hbm with hbm
          injection hbm with _ hbm
          omega
        unfold errV
        simp -dsimp -implicitDefEqProofs (disch := first | omega | assumption | (simp only [Option.isSome_some, Qt0]; done) | (simp only [UInt64.reduceToNat, UInt32.reduceToNat, UInt8.reduceToNat, List.length_cons, List.length_nil, List.length_append, Int.toNat_natCast] <;> omega) | fail) only [Nat.reduceLT, Nat.reduceLeDiff, Nat.reduceEqDiff, ↓reduceIte, Int.reduceLT, Int.reduceLE, Int.reduceToNat, Int.reduceEq, Int.reduceNe, Nat.reduceAdd, UInt8.reduceOfNat, UInt16.reduceOfNat, UInt32.reduceOfNat, UInt64.reduceOfNat, UInt64.reduceToNat, UInt32.reduceToNat, UInt16.reduceToNat, UInt8.reduceToNat, Int.reduceAdd, Int.reduceSub, Int.reduceMul, Nat.reduceMul, Qp0, Qp1, Ql0, Qe0, hra, rdN_new, List.set_cons_zero, List.set_cons_succ, List.take_zero, List.drop_succ_cons, List.drop_zero, List.drop_nil, List.nil_append, List.append_nil, List.take_succ_cons, ite_true, PH.new_new]
        exact ⟨_, PH.Le.refl _, .inr ⟨no_m bdD_ok hrun (.inr hr), _, .wrap talkT 0 (.code 2), by first | rfl | trivial, ⟨be, _, rfl, by rw [PH.new_m, if_neg hnb]; exact hbm, rfl⟩, rfl⟩, hlq.trans (((hle8.trans hl9).trans hla).new _ _ hrb0)⟩
    · unfold errV
      simp -dsimp -implicitDefEqProofs (disch := first | omega | assumption | (simp only [Option.isSome_some, Qt0]; done) | (simp only [UInt64.reduceToNat, UInt32.reduceToNat, UInt8.reduceToNat, List.length_cons, List.length_nil, List.length_append, Int.toNat_natCast] <;> omega) | fail) only [Nat.reduceLT, Nat.reduceLeDiff, Nat.reduceEqDiff, ↓reduceIte, Int.reduceLT, Int.reduceLE, Int.reduceToNat, Int.reduceEq, Int.reduceNe, Nat.reduceAdd, UInt8.reduceOfNat, UInt16.reduceOfNat, UInt32.reduceOfNat, UInt64.reduceOfNat, UInt64.reduceToNat, UInt32.reduceToNat, UInt16.reduceToNat, UInt8.reduceToNat, Int.reduceAdd, Int.reduceSub, Int.reduceMul, Nat.reduceMul, Qp0, Qp1, Ql0, Qe0]
      refine (tbad_any 2 w0 _).mono ?_
      rintro z qa ⟨⟨be2, rfl, hbm⟩, hla⟩
      have hra := hla.m _ _ hr8
      have hnb : be2 ≠ rb := fun e => by
        rw [e, hra] at hbm
        injection hbm with hbm
        injection hbm with _ hbm
        omega
      unfold errV
      simp -dsimp -implicitDefEqProofs (disch := first | omega | assumption | (simp only [Option.isSome_some, Qt0]; done) | (simp only [UInt64.reduceToNat, UInt32.reduceToNat, UInt8.reduceToNat, List.length_cons, List.length_nil, List.length_append, Int.toNat_natCast] <;> omega) | fail) only [Nat.reduceLT, Nat.reduceLeDiff, Nat.reduceEqDiff, ↓reduceIte, Int.reduceLT, Int.reduceLE, Int.reduceToNat, Int.reduceEq, Int.reduceNe, Nat.reduceAdd, UInt8.reduceOfNat, UInt16.reduceOfNat, UInt32.reduceOfNat, UInt64.reduceOfNat, UInt64.reduceToNat, UInt32.reduceToNat, UInt16.reduceToNat, UInt8.reduceToNat, Int.reduceAdd, Int.reduceSub, Int.reduceMul, Nat.reduceMul, Qp0, Qp1, Ql0, Qe0, hra, rdN_new, List.set_cons_zero, List.set_cons_succ, List.take_zero, List.drop_succ_cons, List.drop_zero, List.drop_nil, List.nil_append, List.append_nil, List.take_succ_cons, ite_true, PH.new_new]
      exact ⟨_, PH.Le.refl _, .inr ⟨no_m bdD_ok hrun (.inl hn), _, .wrap talkT 0 (.code 2), by first | rfl | trivial, ⟨be2, _, rfl, by rw [PH.new_m, if_neg hnb]; exact hbm, rfl⟩, rfl⟩, hlq.trans ((hle8.trans hla).new _ _ hrb0)⟩
  by_cases k4 : K = 4
  · subst k4
    obtain rfl : k = 4 := by omega
    simp -dsimp -implicitDefEqProofs (disch := first | omega | assumption | (simp only [Option.isSome_some, Qt0]; done) | (simp only [UInt64.reduceToNat, UInt32.reduceToNat, UInt8.reduceToNat, List.length_cons, List.length_nil, List.length_append, Int.toNat_natCast] <;> omega) | fail) only [Nat.reduceLT, Nat.reduceLeDiff, Nat.reduceEqDiff, ↓reduceIte, Int.reduceLT, Int.reduceLE, Int.reduceToNat, Int.reduceEq, Int.reduceNe, Nat.reduceAdd, UInt8.reduceOfNat, UInt16.reduceOfNat, UInt32.reduceOfNat, UInt64.reduceOfNat, UInt64.reduceToNat, UInt32.reduceToNat, UInt16.reduceToNat, UInt8.reduceToNat, Int.reduceAdd, Int.reduceSub, Int.reduceMul, Nat.reduceMul, Qp0, Qp1, Ql0, Qe0, rd_M, rdM_some, hm]
    refine (inum_any w0 _ ib s hs9 64 _ hi).mono ?_
    rintro z p10 ⟨rfl, hi, hc⟩
    obtain ⟨⟨n, s2⟩, e2⟩ : ∃ p, p = numS 64 s.length s1 := ⟨_, rfl⟩
    rw [← e2] at hi
    rw [← e2]
    simp only at hi
    have hR0 := hc.m _ _ hR0 hne1
    have hm := hc.m _ _ hm hne2
    have hle := hle.chg hc fun x e => by rw [e]; exact hib0
    have hn64 := numS_most (by omega) e2.symm
    simp -dsimp -implicitDefEqProofs (disch := first | omega | assumption | (simp only [Option.isSome_some, Qt0]; done) | (simp only [UInt64.reduceToNat, UInt32.reduceToNat, UInt8.reduceToNat, List.length_cons, List.length_nil, List.length_append, Int.toNat_natCast] <;> omega) | fail) only [Nat.reduceLT, Nat.reduceLeDiff, Nat.reduceEqDiff, ↓reduceIte, Int.reduceLT, Int.reduceLE, Int.reduceToNat, Int.reduceEq, Int.reduceNe, Nat.reduceAdd, UInt8.reduceOfNat, UInt16.reduceOfNat, UInt32.reduceOfNat, UInt64.reduceOfNat, UInt64.reduceToNat, UInt32.reduceToNat, UInt16.reduceToNat, UInt8.reduceToNat, Int.reduceAdd, Int.reduceSub, Int.reduceMul, Nat.reduceMul, Qp0, Qp1, Ql0, Qe0, rd_M, rdM_some, hm]
    refine PW_loopL (fun fu f h' => ∃ (r : Nat) (L : List Ep) (C : Option Addr) (cc : Nat) (st : St), r = fu ∧ L.length + r = n ∧ f 2 = some (.pointer (some ⟨rb, 0, none⟩)) ∧ f 4 = some (.pointer (some ⟨ib, 0, none⟩)) ∧ f 5 = some (.pointer (some ⟨mb, 0, none⟩)) ∧ f 9 = some (.int .i64 r) ∧ h'.m mb = some ⟨[.int .i64 4, .slice none 0 0, .slice none 0 0, .int .i64 0, .int .i64 0, .slice C L.length cc, .int .i64 0], 7⟩ ∧ h'.m rb = some ⟨[.int .i64 0, .slice none 0 0, .slice none 0 0, .int .i64 0, .int .i64 0, .slice none 0 0, .int .i64 0], 7⟩ ∧ IS h' ib s st ∧ PH.Le q0 h' ∧ Own h' 2 (.slice C L.length cc) L.length (L.flatMap epL) ∧ (∀ a, C = some a → q0.top ≤ a.block ∧ a.block ≠ ib ∧ a.block ≠ mb ∧ a.block ≠ rb) ∧ EpRun 32 1099511627776 s.length L s2 st ∧ (∀ y ∈ L, y.u.length ≤ 100000)) (by kernel_rfl) n ⟨n, [], none, 0, s2, rfl, by simp, ?_, ?_, ?_, ?_, hm, hR0, hi, hle, Own.nil _ 2, (fun a e => by cases e), rfl, (fun y hy => by cases hy)⟩ ?_
    · simp -dsimp -implicitDefEqProofs (disch := first | omega | assumption | (simp only [Option.isSome_some, Qt0]; done) | (simp only [UInt64.reduceToNat, UInt32.reduceToNat, UInt8.reduceToNat, List.length_cons, List.length_nil, List.length_append, Int.toNat_natCast] <;> omega) | fail) only [Nat.reduceLT, Nat.reduceLeDiff, Nat.reduceEqDiff, ↓reduceIte, Int.reduceLT, Int.reduceLE, Int.reduceToNat, Int.reduceEq, Int.reduceNe, Nat.reduceAdd, UInt8.reduceOfNat, UInt16.reduceOfNat, UInt32.reduceOfNat, UInt64.reduceOfNat, UInt64.reduceToNat, UInt32.reduceToNat, UInt16.reduceToNat, UInt8.reduceToNat, Int.reduceAdd, Int.reduceSub, Int.reduceMul, Nat.reduceMul, Qp0, Qp1, Ql0, Qe0]
    · simp -dsimp -implicitDefEqProofs (disch := first | omega | assumption | (simp only [Option.isSome_some, Qt0]; done) | (simp only [UInt64.reduceToNat, UInt32.reduceToNat, UInt8.reduceToNat, List.length_cons, List.length_nil, List.length_append, Int.toNat_natCast] <;> omega) | fail) only [Nat.reduceLT, Nat.reduceLeDiff, Nat.reduceEqDiff, ↓reduceIte, Int.reduceLT, Int.reduceLE, Int.reduceToNat, Int.reduceEq, Int.reduceNe, Nat.reduceAdd, UInt8.reduceOfNat, UInt16.reduceOfNat, UInt32.reduceOfNat, UInt64.reduceOfNat, UInt64.reduceToNat, UInt32.reduceToNat, UInt16.reduceToNat, UInt8.reduceToNat, Int.reduceAdd, Int.reduceSub, Int.reduceMul, Nat.reduceMul, Qp0, Qp1, Ql0, Qe0]
    · simp -dsimp -implicitDefEqProofs (disch := first | omega | assumption | (simp only [Option.isSome_some, Qt0]; done) | (simp only [UInt64.reduceToNat, UInt32.reduceToNat, UInt8.reduceToNat, List.length_cons, List.length_nil, List.length_append, Int.toNat_natCast] <;> omega) | fail) only [Nat.reduceLT, Nat.reduceLeDiff, Nat.reduceEqDiff, ↓reduceIte, Int.reduceLT, Int.reduceLE, Int.reduceToNat, Int.reduceEq, Int.reduceNe, Nat.reduceAdd, UInt8.reduceOfNat, UInt16.reduceOfNat, UInt32.reduceOfNat, UInt64.reduceOfNat, UInt64.reduceToNat, UInt32.reduceToNat, UInt16.reduceToNat, UInt8.reduceToNat, Int.reduceAdd, Int.reduceSub, Int.reduceMul, Nat.reduceMul, Qp0, Qp1, Ql0, Qe0]
    · simp -dsimp -implicitDefEqProofs (disch := first | omega | assumption | (simp only [Option.isSome_some, Qt0]; done) | (simp only [UInt64.reduceToNat, UInt32.reduceToNat, UInt8.reduceToNat, List.length_cons, List.length_nil, List.length_append, Int.toNat_natCast] <;> omega) | fail) only [Nat.reduceLT, Nat.reduceLeDiff, Nat.reduceEqDiff, ↓reduceIte, Int.reduceLT, Int.reduceLE, Int.reduceToNat, Int.reduceEq, Int.reduceNe, Nat.reduceAdd, UInt8.reduceOfNat, UInt16.reduceOfNat, UInt32.reduceOfNat, UInt64.reduceOfNat, UInt64.reduceToNat, UInt32.reduceToNat, UInt16.reduceToNat, UInt8.reduceToNat, Int.reduceAdd, Int.reduceSub, Int.reduceMul, Nat.reduceMul, Qp0, Qp1, Ql0, Qe0]
    clear hm hR0 hi hle hc
    rintro fu f h' ⟨r, L, C, cc, st, rfl, hLr, f2, f4, f5, f9, hm, hR0, hi, hle, hown, hnC, hrunE, hu⟩ hlow'
    have hLc : L.length ≤ cc := by obtain ⟨_, _, hA, hcap⟩ := hown.len; injection hA with hA1 hA2 hA3; omega
    by_cases hr0 : r = 0
    · subst hr0
      have e0 : decide (((0 : Nat) : Int) > 0) = false := rfl
      have hre : Rv w0 h' C (L.flatMap epL) := Rv.own hown
      simp -dsimp -implicitDefEqProofs (disch := first | omega | assumption | (simp only [Option.isSome_some, Qt0]; done) | (simp only [UInt64.reduceToNat, UInt32.reduceToNat, UInt8.reduceToNat, List.length_cons, List.length_nil, List.length_append, Int.toNat_natCast] <;> omega) | fail) only [Nat.reduceLT, Nat.reduceLeDiff, Nat.reduceEqDiff, ↓reduceIte, Int.reduceLT, Int.reduceLE, Int.reduceToNat, Int.reduceEq, Int.reduceNe, Nat.reduceAdd, UInt8.reduceOfNat, UInt16.reduceOfNat, UInt32.reduceOfNat, UInt64.reduceOfNat, UInt64.reduceToNat, UInt32.reduceToNat, UInt16.reduceToNat, UInt8.reduceToNat, Int.reduceAdd, Int.reduceSub, Int.reduceMul, Nat.reduceMul, Qp0, Qp1, Ql0, Qe0, f2, f4, f5, f9, e0, rd_M, rdM_some, hm]
      refine (inum_any w0 _ ib s hs9 1099511627776 _ hi).mono ?_
      rintro z p11 ⟨rfl, hi, hc⟩
      obtain ⟨⟨x, s4⟩, e4⟩ : ∃ p, p = numS 1099511627776 s.length st := ⟨_, rfl⟩
      rw [← e4] at hi
      rw [← e4]
      simp only at hi
      have hR0 := hc.m _ _ hR0 hne1
      have hm := hc.m _ _ hm hne2
      have hle := hle.chg hc fun x e => by rw [e]; exact hib0
      have hre := hre.chg hc (fun a ea e => (hnC a ea).2.1 e)
      simp -dsimp -implicitDefEqProofs (disch := first | omega | assumption | (simp only [Option.isSome_some, Qt0]; done) | (simp only [UInt64.reduceToNat, UInt32.reduceToNat, UInt8.reduceToNat, List.length_cons, List.length_nil, List.length_append, Int.toNat_natCast] <;> omega) | fail) only [Nat.reduceLT, Nat.reduceLeDiff, Nat.reduceEqDiff, ↓reduceIte, Int.reduceLT, Int.reduceLE, Int.reduceToNat, Int.reduceEq, Int.reduceNe, Nat.reduceAdd, UInt8.reduceOfNat, UInt16.reduceOfNat, UInt32.reduceOfNat, UInt64.reduceOfNat, UInt64.reduceToNat, UInt32.reduceToNat, UInt16.reduceToNat, UInt8.reduceToNat, Int.reduceAdd, Int.reduceSub, Int.reduceMul, Nat.reduceMul, Qp0, Qp1, Ql0, Qe0, f2, f4, f5, rd_M, rdM_some, hm, List.set_cons_zero, List.set_cons_succ, List.take_zero, List.drop_succ_cons, List.drop_zero, List.drop_nil, List.nil_append, List.append_nil, List.take_succ_cons, ite_true, PH.new_new]
      have hi := IS_put hi hm (show (7 : Nat) ≠ 3 by omega) ⟨[.int .i64 4, .slice none 0 0, .slice none 0 0, .int .i64 0, .int .i64 0, .slice C L.length cc, .int .i64 x], 7⟩
      have hR0 : (p11.new mb ⟨[.int .i64 4, .slice none 0 0, .slice none 0 0, .int .i64 0, .int .i64 0, .slice C L.length cc, .int .i64 x], 7⟩).m rb = some ⟨[.int .i64 0, .slice none 0 0, .slice none 0 0, .int .i64 0, .int .i64 0, .slice none 0 0, .int .i64 0], 7⟩ := by rw [PH.new_m, if_neg (Ne.symm hne3)]; exact hR0
      have hle := hle.new mb ⟨[.int .i64 4, .slice none 0 0, .slice none 0 0, .int .i64 0, .int .i64 0, .slice C L.length cc, .int .i64 x], 7⟩ hmb0
      have hm : (p11.new mb ⟨[.int .i64 4, .slice none 0 0, .slice none 0 0, .int .i64 0, .int .i64 0, .slice C L.length cc, .int .i64 x], 7⟩).m mb = some ⟨[.int .i64 4, .slice none 0 0, .slice none 0 0, .int .i64 0, .int .i64 0, .slice C L.length cc, .int .i64 x], 7⟩ := by rw [PH.new_m, if_pos rfl]
      have hre := hre.chg (F := (· = mb)) ((Chg.refl (· = mb) p11).one ⟨[.int .i64 4, .slice none 0 0, .slice none 0 0, .int .i64 0, .int .i64 0, .slice C L.length cc, .int .i64 x], 7⟩) (fun a ea e => (hnC a ea).2.2.1 e)
      generalize p11.new mb ⟨[.int .i64 4, .slice none 0 0, .slice none 0 0, .int .i64 0, .int .i64 0, .slice C L.length cc, .int .i64 x], 7⟩ = p12 at *
      try simp -dsimp -implicitDefEqProofs (disch := first | omega | assumption | (simp only [Option.isSome_some, Qt0]; done) | (simp only [UInt64.reduceToNat, UInt32.reduceToNat, UInt8.reduceToNat, List.length_cons, List.length_nil, List.length_append, Int.toNat_natCast] <;> omega) | fail) only [Nat.reduceLT, Nat.reduceLeDiff, Nat.reduceEqDiff, ↓reduceIte, Int.reduceLT, Int.reduceLE, Int.reduceToNat, Int.reduceEq, Int.reduceNe, Nat.reduceAdd, UInt8.reduceOfNat, UInt16.reduceOfNat, UInt32.reduceOfNat, UInt64.reduceOfNat, UInt64.reduceToNat, UInt32.reduceToNat, UInt16.reduceToNat, UInt8.reduceToNat, Int.reduceAdd, Int.reduceSub, Int.reduceMul, Nat.reduceMul, Qp0, Qp1, Ql0, Qe0, f2, f4, f5, rd_M, rdM_some, hm]
      refine (inum_any w0 _ ib s hs9 1099511627776 _ hi).mono ?_
      rintro z p13 ⟨rfl, hi, hc⟩
      obtain ⟨⟨t, s5⟩, e5⟩ : ∃ p, p = numS 1099511627776 s.length s4 := ⟨_, rfl⟩
      rw [← e5] at hi
      rw [← e5]
      simp only at hi
      have hR0 := hc.m _ _ hR0 hne1
      have hm := hc.m _ _ hm hne2
      have hle := hle.chg hc fun x e => by rw [e]; exact hib0
      have hre := hre.chg hc (fun a ea e => (hnC a ea).2.1 e)
      simp -dsimp -implicitDefEqProofs (disch := first | omega | assumption | (simp only [Option.isSome_some, Qt0]; done) | (simp only [UInt64.reduceToNat, UInt32.reduceToNat, UInt8.reduceToNat, List.length_cons, List.length_nil, List.length_append, Int.toNat_natCast] <;> omega) | fail) only [Nat.reduceLT, Nat.reduceLeDiff, Nat.reduceEqDiff, ↓reduceIte, Int.reduceLT, Int.reduceLE, Int.reduceToNat, Int.reduceEq, Int.reduceNe, Nat.reduceAdd, UInt8.reduceOfNat, UInt16.reduceOfNat, UInt32.reduceOfNat, UInt64.reduceOfNat, UInt64.reduceToNat, UInt32.reduceToNat, UInt16.reduceToNat, UInt8.reduceToNat, Int.reduceAdd, Int.reduceSub, Int.reduceMul, Nat.reduceMul, Qp0, Qp1, Ql0, Qe0, f2, f4, f5, rd_M, rdM_some, hm, List.set_cons_zero, List.set_cons_succ, List.take_zero, List.drop_succ_cons, List.drop_zero, List.drop_nil, List.nil_append, List.append_nil, List.take_succ_cons, ite_true, PH.new_new]
      have hi := IS_put hi hm (show (7 : Nat) ≠ 3 by omega) ⟨[.int .i64 4, .slice none 0 0, .slice none 0 0, .int .i64 0, .int .i64 t, .slice C L.length cc, .int .i64 x], 7⟩
      have hR0 : (p13.new mb ⟨[.int .i64 4, .slice none 0 0, .slice none 0 0, .int .i64 0, .int .i64 t, .slice C L.length cc, .int .i64 x], 7⟩).m rb = some ⟨[.int .i64 0, .slice none 0 0, .slice none 0 0, .int .i64 0, .int .i64 0, .slice none 0 0, .int .i64 0], 7⟩ := by rw [PH.new_m, if_neg (Ne.symm hne3)]; exact hR0
      have hle := hle.new mb ⟨[.int .i64 4, .slice none 0 0, .slice none 0 0, .int .i64 0, .int .i64 t, .slice C L.length cc, .int .i64 x], 7⟩ hmb0
      have hm : (p13.new mb ⟨[.int .i64 4, .slice none 0 0, .slice none 0 0, .int .i64 0, .int .i64 t, .slice C L.length cc, .int .i64 x], 7⟩).m mb = some ⟨[.int .i64 4, .slice none 0 0, .slice none 0 0, .int .i64 0, .int .i64 t, .slice C L.length cc, .int .i64 x], 7⟩ := by rw [PH.new_m, if_pos rfl]
      have hre := hre.chg (F := (· = mb)) ((Chg.refl (· = mb) p13).one ⟨[.int .i64 4, .slice none 0 0, .slice none 0 0, .int .i64 0, .int .i64 t, .slice C L.length cc, .int .i64 x], 7⟩) (fun a ea e => (hnC a ea).2.2.1 e)
      generalize p13.new mb ⟨[.int .i64 4, .slice none 0 0, .slice none 0 0, .int .i64 0, .int .i64 t, .slice C L.length cc, .int .i64 x], 7⟩ = p14 at *
      have hRM : MsR w0 p14 ⟨4, [], [], 0, t, L, x⟩ ⟨[], none, none, C, 0, 0, cc⟩ := ⟨rfl, (fun y hy => by cases hy), Rv.nil _ _ _, Rv.nil _ _ _, hre, Nat.le_refl _, Nat.le_refl _, hLc⟩
      have hFM : Fits ⟨4, [], [], 0, t, L, x⟩ := ⟨by simp, by simp, by show L.length ≤ 1000; omega, fun x hx => by simp at hx, hu⟩
      have hrun : RunM bdD s.length s ⟨4, [], [], 0, t, L, x⟩ _ := ⟨4, s1, ek, .inr (.inr (.inr (.inl ⟨rfl, n, s2, L, st, x, s4, t, e2.symm, by omega, hrunE, e4.symm, e5.symm, rfl⟩)))⟩
      have haM : allOne [.int .i64 4, .slice none 0 0, .slice none 0 0, .int .i64 0, .int .i64 t, .slice C L.length cc, .int .i64 x] := allOne_of _ rfl
      try simp -dsimp -implicitDefEqProofs (disch := first | omega | assumption | (simp only [Option.isSome_some, Qt0]; done) | (simp only [UInt64.reduceToNat, UInt32.reduceToNat, UInt8.reduceToNat, List.length_cons, List.length_nil, List.length_append, Int.toNat_natCast] <;> omega) | fail) only [Nat.reduceLT, Nat.reduceLeDiff, Nat.reduceEqDiff, ↓reduceIte, Int.reduceLT, Int.reduceLE, Int.reduceToNat, Int.reduceEq, Int.reduceNe, Nat.reduceAdd, UInt8.reduceOfNat, UInt16.reduceOfNat, UInt32.reduceOfNat, UInt64.reduceOfNat, UInt64.reduceToNat, UInt32.reduceToNat, UInt16.reduceToNat, UInt8.reduceToNat, Int.reduceAdd, Int.reduceSub, Int.reduceMul, Nat.reduceMul, Qp0, Qp1, Ql0, Qe0, rd_M, rdM_some, hm, f2, f4, f5]
      refine (end_any w0 p14 ib s _ hi).mono ?_
      rintro z q8 ⟨he, hl8⟩
      have hm8 := hl8.m _ _ hm
      have hr8 := hl8.m _ _ hR0
      have hC8 : rdN w0 q8 ⟨mb, 0, none⟩ 7 = some [.int .i64 4, .slice none 0 0, .slice none 0 0, .int .i64 0, .int .i64 t, .slice C L.length cc, .int .i64 x] := by unfold rdN; simp only [hm8]; rfl
      have hR8 := hRM.more hl8
      have hle8 := hle.trans hl8
      rcases EE_told he with ⟨hok, rfl⟩ | ⟨hn, be, pe, rfl, hbe⟩
      · have hRt := right_any w0 q8 _ _ hR8 hFM
        unfold msL at hRt
        simp only [List.length_nil] at hRt
        cases hr : rightM ⟨4, [], [], 0, t, L, x⟩ with
        | true =>
          rw [hr] at hRt
          simp -dsimp -implicitDefEqProofs (disch := first | omega | assumption | (simp only [Option.isSome_some, Qt0]; done) | (simp only [UInt64.reduceToNat, UInt32.reduceToNat, UInt8.reduceToNat, List.length_cons, List.length_nil, List.length_append, Int.toNat_natCast] <;> omega) | fail) only [Nat.reduceLT, Nat.reduceLeDiff, Nat.reduceEqDiff, ↓reduceIte, Int.reduceLT, Int.reduceLE, Int.reduceToNat, Int.reduceEq, Int.reduceNe, Nat.reduceAdd, UInt8.reduceOfNat, UInt16.reduceOfNat, UInt32.reduceOfNat, UInt64.reduceOfNat, UInt64.reduceToNat, UInt32.reduceToNat, UInt16.reduceToNat, UInt8.reduceToNat, Int.reduceAdd, Int.reduceSub, Int.reduceMul, Nat.reduceMul, Qp0, Qp1, Ql0, Qe0, hC8, f2, f4, f5]
          refine hRt.mono ?_
          rintro z q9 ⟨rfl, hl9⟩
          have hr9 := hl9.m _ _ hr8
          have hm9 := hl9.m _ _ hm8
          have hC9 : rdN w0 q9 ⟨mb, 0, none⟩ 7 = some [.int .i64 4, .slice none 0 0, .slice none 0 0, .int .i64 0, .int .i64 t, .slice C L.length cc, .int .i64 x] := by unfold rdN; simp only [hm9]; rfl
          have hR9 := hR8.more hl9
          simp -dsimp -implicitDefEqProofs (disch := first | omega | assumption | (simp only [Option.isSome_some, Qt0]; done) | (simp only [UInt64.reduceToNat, UInt32.reduceToNat, UInt8.reduceToNat, List.length_cons, List.length_nil, List.length_append, Int.toNat_natCast] <;> omega) | fail) only [Nat.reduceLT, Nat.reduceLeDiff, Nat.reduceEqDiff, ↓reduceIte, Int.reduceLT, Int.reduceLE, Int.reduceToNat, Int.reduceEq, Int.reduceNe, Nat.reduceAdd, UInt8.reduceOfNat, UInt16.reduceOfNat, UInt32.reduceOfNat, UInt64.reduceOfNat, UInt64.reduceToNat, UInt32.reduceToNat, UInt16.reduceToNat, UInt8.reduceToNat, Int.reduceAdd, Int.reduceSub, Int.reduceMul, Nat.reduceMul, Qp0, Qp1, Ql0, Qe0, hC9, hr9, rdN_new, List.set_cons_zero, List.set_cons_succ, List.take_zero, List.drop_succ_cons, List.drop_zero, List.drop_nil, List.nil_append, List.append_nil, List.take_succ_cons, ite_true, PH.new_new, f2, f4, f5]
          refine ⟨_, PH.Le.refl _, .inl ⟨⟨4, [], [], 0, t, L, x⟩, ⟨[], none, none, C, 0, 0, cc⟩, hr, by rw [hok] at hrun; exact hrun.back hr, by first | rfl | trivial, ?_, hFM⟩, hlq.trans ((hle8.trans hl9).new _ _ hrb0)⟩
          exact hR9.chg (F := (· = rb)) ((Chg.refl _ _).one _) (fun a e => by cases e) (fun a e => by cases e) (fun a e => (hnC a e).2.2.2) (fun y hy => by cases hy)
        | false =>
          rw [hr] at hRt
          simp -dsimp -implicitDefEqProofs (disch := first | omega | assumption | (simp only [Option.isSome_some, Qt0]; done) | (simp only [UInt64.reduceToNat, UInt32.reduceToNat, UInt8.reduceToNat, List.length_cons, List.length_nil, List.length_append, Int.toNat_natCast] <;> omega) | fail) only [Nat.reduceLT, Nat.reduceLeDiff, Nat.reduceEqDiff, ↓reduceIte, Int.reduceLT, Int.reduceLE, Int.reduceToNat, Int.reduceEq, Int.reduceNe, Nat.reduceAdd, UInt8.reduceOfNat, UInt16.reduceOfNat, UInt32.reduceOfNat, UInt64.reduceOfNat, UInt64.reduceToNat, UInt32.reduceToNat, UInt16.reduceToNat, UInt8.reduceToNat, Int.reduceAdd, Int.reduceSub, Int.reduceMul, Nat.reduceMul, Qp0, Qp1, Ql0, Qe0, hC8, f2, f4, f5]
          refine hRt.mono ?_
          rintro z q9 ⟨rfl, hl9⟩
          have hr9 := hl9.m _ _ hr8
          simp -dsimp -implicitDefEqProofs (disch := first | omega | assumption | (simp only [Option.isSome_some, Qt0]; done) | (simp only [UInt64.reduceToNat, UInt32.reduceToNat, UInt8.reduceToNat, List.length_cons, List.length_nil, List.length_append, Int.toNat_natCast] <;> omega) | fail) only [Nat.reduceLT, Nat.reduceLeDiff, Nat.reduceEqDiff, ↓reduceIte, Int.reduceLT, Int.reduceLE, Int.reduceToNat, Int.reduceEq, Int.reduceNe, Nat.reduceAdd, UInt8.reduceOfNat, UInt16.reduceOfNat, UInt32.reduceOfNat, UInt64.reduceOfNat, UInt64.reduceToNat, UInt32.reduceToNat, UInt16.reduceToNat, UInt8.reduceToNat, Int.reduceAdd, Int.reduceSub, Int.reduceMul, Nat.reduceMul, Qp0, Qp1, Ql0, Qe0, f2, f4, f5]
          refine (tbad_any 2 w0 _).mono ?_
          rintro z qa ⟨⟨be, rfl, hbm⟩, hla⟩
          have hra := hla.m _ _ hr9
          have hnb : be ≠ rb := fun e => by
            rw [e, hra] at hbm
            injection hbm with hbm
            injection hbm with _ hbm
            omega
          unfold errV
          simp -dsimp -implicitDefEqProofs (disch := first | omega | assumption | (simp only [Option.isSome_some, Qt0]; done) | (simp only [UInt64.reduceToNat, UInt32.reduceToNat, UInt8.reduceToNat, List.length_cons, List.length_nil, List.length_append, Int.toNat_natCast] <;> omega) | fail) only [Nat.reduceLT, Nat.reduceLeDiff, Nat.reduceEqDiff, ↓reduceIte, Int.reduceLT, Int.reduceLE, Int.reduceToNat, Int.reduceEq, Int.reduceNe, Nat.reduceAdd, UInt8.reduceOfNat, UInt16.reduceOfNat, UInt32.reduceOfNat, UInt64.reduceOfNat, UInt64.reduceToNat, UInt32.reduceToNat, UInt16.reduceToNat, UInt8.reduceToNat, Int.reduceAdd, Int.reduceSub, Int.reduceMul, Nat.reduceMul, Qp0, Qp1, Ql0, Qe0, hra, rdN_new, List.set_cons_zero, List.set_cons_succ, List.take_zero, List.drop_succ_cons, List.drop_zero, List.drop_nil, List.nil_append, List.append_nil, List.take_succ_cons, ite_true, PH.new_new, f2, f4, f5]
          exact ⟨_, PH.Le.refl _, .inr ⟨no_m bdD_ok hrun (.inr hr), _, .wrap talkT 0 (.code 2), by first | rfl | trivial, ⟨be, _, rfl, by rw [PH.new_m, if_neg hnb]; exact hbm, rfl⟩, rfl⟩, hlq.trans (((hle8.trans hl9).trans hla).new _ _ hrb0)⟩
      · unfold errV
        simp -dsimp -implicitDefEqProofs (disch := first | omega | assumption | (simp only [Option.isSome_some, Qt0]; done) | (simp only [UInt64.reduceToNat, UInt32.reduceToNat, UInt8.reduceToNat, List.length_cons, List.length_nil, List.length_append, Int.toNat_natCast] <;> omega) | fail) only [Nat.reduceLT, Nat.reduceLeDiff, Nat.reduceEqDiff, ↓reduceIte, Int.reduceLT, Int.reduceLE, Int.reduceToNat, Int.reduceEq, Int.reduceNe, Nat.reduceAdd, UInt8.reduceOfNat, UInt16.reduceOfNat, UInt32.reduceOfNat, UInt64.reduceOfNat, UInt64.reduceToNat, UInt32.reduceToNat, UInt16.reduceToNat, UInt8.reduceToNat, Int.reduceAdd, Int.reduceSub, Int.reduceMul, Nat.reduceMul, Qp0, Qp1, Ql0, Qe0, f2, f4, f5]
        refine (tbad_any 2 w0 _).mono ?_
        rintro z qa ⟨⟨be2, rfl, hbm⟩, hla⟩
        have hra := hla.m _ _ hr8
        have hnb : be2 ≠ rb := fun e => by
          rw [e, hra] at hbm
          injection hbm with hbm
          injection hbm with _ hbm
          omega
        unfold errV
        simp -dsimp -implicitDefEqProofs (disch := first | omega | assumption | (simp only [Option.isSome_some, Qt0]; done) | (simp only [UInt64.reduceToNat, UInt32.reduceToNat, UInt8.reduceToNat, List.length_cons, List.length_nil, List.length_append, Int.toNat_natCast] <;> omega) | fail) only [Nat.reduceLT, Nat.reduceLeDiff, Nat.reduceEqDiff, ↓reduceIte, Int.reduceLT, Int.reduceLE, Int.reduceToNat, Int.reduceEq, Int.reduceNe, Nat.reduceAdd, UInt8.reduceOfNat, UInt16.reduceOfNat, UInt32.reduceOfNat, UInt64.reduceOfNat, UInt64.reduceToNat, UInt32.reduceToNat, UInt16.reduceToNat, UInt8.reduceToNat, Int.reduceAdd, Int.reduceSub, Int.reduceMul, Nat.reduceMul, Qp0, Qp1, Ql0, Qe0, hra, rdN_new, List.set_cons_zero, List.set_cons_succ, List.take_zero, List.drop_succ_cons, List.drop_zero, List.drop_nil, List.nil_append, List.append_nil, List.take_succ_cons, ite_true, PH.new_new, f2, f4, f5]
        exact ⟨_, PH.Le.refl _, .inr ⟨no_m bdD_ok hrun (.inl hn), _, .wrap talkT 0 (.code 2), by first | rfl | trivial, ⟨be2, _, rfl, by rw [PH.new_m, if_neg hnb]; exact hbm, rfl⟩, rfl⟩, hlq.trans ((hle8.trans hla).new _ _ hrb0)⟩
    have e0 : decide ((r : Int) > 0) = true := decide_eq_true (by omega)
    simp -dsimp -implicitDefEqProofs (disch := first | omega | assumption | (simp only [Option.isSome_some, Qt0]; done) | (simp only [UInt64.reduceToNat, UInt32.reduceToNat, UInt8.reduceToNat, List.length_cons, List.length_nil, List.length_append, Int.toNat_natCast] <;> omega) | fail) only [Nat.reduceLT, Nat.reduceLeDiff, Nat.reduceEqDiff, ↓reduceIte, Int.reduceLT, Int.reduceLE, Int.reduceToNat, Int.reduceEq, Int.reduceNe, Nat.reduceAdd, UInt8.reduceOfNat, UInt16.reduceOfNat, UInt32.reduceOfNat, UInt64.reduceOfNat, UInt64.reduceToNat, UInt32.reduceToNat, UInt16.reduceToNat, UInt8.reduceToNat, Int.reduceAdd, Int.reduceSub, Int.reduceMul, Nat.reduceMul, Qp0, Qp1, Ql0, Qe0, f2, f4, f5, f9, e0, rd_M, rdM_some, hm]
    refine (itext_any w0 _ ib s hs9 32 _ hi).mono ?_
    rintro z q5 ⟨rfl, hi, hc⟩
    obtain ⟨⟨u, s3⟩, e3⟩ : ∃ p, p = txtS 32 s.length st := ⟨_, rfl⟩
    rw [← e3] at hi
    rw [← e3]
    simp only at hi
    have hu32 := txtS_most (by omega) e3.symm
    have hR0 := hc.m _ _ hR0 hne1
    have hm := hc.m _ _ hm hne2
    have hle := hle.chg hc fun x e => by rw [e]; exact hib0
    have hown := hown.chg hc fun x e f => by cases C with | none => cases e | some a => exact (hnC a rfl).2.1 (by rw [← f]; simpa [Value.ownBlock] using e)
    simp -dsimp -implicitDefEqProofs (disch := first | omega | assumption | (simp only [Option.isSome_some, Qt0]; done) | (simp only [UInt64.reduceToNat, UInt32.reduceToNat, UInt8.reduceToNat, List.length_cons, List.length_nil, List.length_append, Int.toNat_natCast] <;> omega) | fail) only [Nat.reduceLT, Nat.reduceLeDiff, Nat.reduceEqDiff, ↓reduceIte, Int.reduceLT, Int.reduceLE, Int.reduceToNat, Int.reduceEq, Int.reduceNe, Nat.reduceAdd, UInt8.reduceOfNat, UInt16.reduceOfNat, UInt32.reduceOfNat, UInt64.reduceOfNat, UInt64.reduceToNat, UInt32.reduceToNat, UInt16.reduceToNat, UInt8.reduceToNat, Int.reduceAdd, Int.reduceSub, Int.reduceMul, Nat.reduceMul, Qp0, Qp1, Ql0, Qe0, f2, f4, f5, f9]
    obtain ⟨hS, hSm, hSs⟩ := solo w0 q5 mb 7 [.int .i64 4, .slice none 0 0, .slice none 0 0, .int .i64 0, .int .i64 0, .slice C L.length cc, .int .i64 0] [] hm
    refine PW_tr (.take 0 (.take 1 (.take 2 (.take 3 (.take 4 (.take 5 (.take 6 (.take 7 (.take 8 (.cut [9])))))))))) hS (by kernel_rfl) (by decide +kernel) (by kernel_rfl) (by kernel_rfl) (by kernel_rfl) (fun c f h hq => by simp only [thenC_panic, thenK_panic, inBlk_panic, thenN_panic, vcRet_panic] at hq) (hSs _ [] (Nat.le_refl _) hm) ?_
    have hq5t := Nat.le_refl q5.top
    simp -dsimp -implicitDefEqProofs (disch := first | omega | assumption | (simp only [Option.isSome_some, Qt0]; done) | (simp only [UInt64.reduceToNat, UInt32.reduceToNat, UInt8.reduceToNat, List.length_cons, List.length_nil, List.length_append, Int.toNat_natCast] <;> omega) | fail) only [Nat.reduceLT, Nat.reduceLeDiff, Nat.reduceEqDiff, ↓reduceIte, Int.reduceLT, Int.reduceLE, Int.reduceToNat, Int.reduceEq, Int.reduceNe, Nat.reduceAdd, UInt8.reduceOfNat, UInt16.reduceOfNat, UInt32.reduceOfNat, UInt64.reduceOfNat, UInt64.reduceToNat, UInt32.reduceToNat, UInt16.reduceToNat, UInt8.reduceToNat, Int.reduceAdd, Int.reduceSub, Int.reduceMul, Nat.reduceMul, Qp0, Qp1, Ql0, Qe0, vcUS_done, vcUS_take, vcUS_only, vcUS_both, vcUS_cut, vcUC_nil, vcUC_cons, vcUO_some, vcUL_some, vcUE_some, f2, f4, f5, f9, rd_M, rdM_some, hSm]
    refine (inum_any w0 _ ib s hs9 1099511627776 _ hi).mono ?_
    rintro z q6 ⟨rfl, hi, hc⟩
    obtain ⟨⟨nn, s4⟩, e4⟩ : ∃ p, p = numS 1099511627776 s.length s3 := ⟨_, rfl⟩
    rw [← e4] at hi
    rw [← e4]
    simp only at hi
    have hR0 := hc.m _ _ hR0 hne1
    have hm := hc.m _ _ hm hne2
    have hle := hle.chg hc fun x e => by rw [e]; exact hib0
    have hown := hown.chg hc fun x e f => by cases C with | none => cases e | some a => exact (hnC a rfl).2.1 (by rw [← f]; simpa [Value.ownBlock] using e)
    have hq6t := Nat.le_trans hq5t hc.top
    refine ⟨hSs _ [] hq6t hm, ?_⟩
    simp -dsimp -implicitDefEqProofs (disch := first | omega | assumption | (simp only [Option.isSome_some, Qt0]; done) | (simp only [UInt64.reduceToNat, UInt32.reduceToNat, UInt8.reduceToNat, List.length_cons, List.length_nil, List.length_append, Int.toNat_natCast] <;> omega) | fail) only [Nat.reduceLT, Nat.reduceLeDiff, Nat.reduceEqDiff, ↓reduceIte, Int.reduceLT, Int.reduceLE, Int.reduceToNat, Int.reduceEq, Int.reduceNe, Nat.reduceAdd, UInt8.reduceOfNat, UInt16.reduceOfNat, UInt32.reduceOfNat, UInt64.reduceOfNat, UInt64.reduceToNat, UInt32.reduceToNat, UInt16.reduceToNat, UInt8.reduceToNat, Int.reduceAdd, Int.reduceSub, Int.reduceMul, Nat.reduceMul, Qp0, Qp1, Ql0, Qe0, vcUS_done, vcUS_take, vcUS_only, vcUS_both, vcUS_cut, vcUC_nil, vcUC_cons, vcUO_some, vcUL_some, vcUE_some, f2, f4, f5, f9]
    refine Does_one (v := .agg #[str u, .int .i64 nn]) el_ep rfl (by omega) fun gb hgb => ?_
    have hl7 := (PH.Le.refl q6).new gb ⟨(Value.agg #[str u, .int .i64 nn]).cells.toList, 2⟩ hgb
    have hgm : (q6.new gb ⟨(Value.agg #[str u, .int .i64 nn]).cells.toList, 2⟩).m gb = some ⟨[str u, .int .i64 nn], 2⟩ := by rw [PH.new_m, if_pos rfl]; rfl
    generalize q6.new gb ⟨(Value.agg #[str u, .int .i64 nn]).cells.toList, 2⟩ = q7 at *
    have hm := hl7.m _ _ hm
    have hR0 := hl7.m _ _ hR0
    have hi := hi.more hl7
    have hle := hle.trans hl7
    have hown := hown.more hl7
    have hq7t := Nat.le_trans hq6t hl7.top
    refine ⟨hSs _ [] hq7t hm, ?_⟩
    simp -dsimp -implicitDefEqProofs (disch := first | omega | assumption | (simp only [Option.isSome_some, Qt0]; done) | (simp only [UInt64.reduceToNat, UInt32.reduceToNat, UInt8.reduceToNat, List.length_cons, List.length_nil, List.length_append, Int.toNat_natCast] <;> omega) | fail) only [Nat.reduceLT, Nat.reduceLeDiff, Nat.reduceEqDiff, ↓reduceIte, Int.reduceLT, Int.reduceLE, Int.reduceToNat, Int.reduceEq, Int.reduceNe, Nat.reduceAdd, UInt8.reduceOfNat, UInt16.reduceOfNat, UInt32.reduceOfNat, UInt64.reduceOfNat, UInt64.reduceToNat, UInt32.reduceToNat, UInt16.reduceToNat, UInt8.reduceToNat, Int.reduceAdd, Int.reduceSub, Int.reduceMul, Nat.reduceMul, Qp0, Qp1, Ql0, Qe0, vcUS_done, vcUS_take, vcUS_only, vcUS_both, vcUS_cut, vcUC_nil, vcUC_cons, vcUO_some, vcUL_some, vcUE_some, f2, f4, f5, f9]
    refine Does_app2 el_ep hown (Rs.blk (k := ⟨[str u, .int .i64 nn], 2⟩) hgm rfl) (epL_one ⟨u, nn⟩) (by unfold maxLen; omega) (by omega) (fun v' q8 ho hst hsub => ?_)
    obtain ⟨C2, cc2, rfl, hcc2⟩ := ho.len
    have hcs := hst.chg
    have hnoC : ∀ x, (Value.slice C L.length cc).ownBlock = some x → x ≠ ib ∧ x ≠ mb ∧ x ≠ rb ∧ q0.top ≤ x := fun x e => by cases C with | none => cases e | some a => (have hx : a.block = x := by simpa [Value.ownBlock] using e); rw [← hx]; exact ⟨(hnC a rfl).2.1, (hnC a rfl).2.2.1, (hnC a rfl).2.2.2, (hnC a rfl).1⟩
    have hmb7 := q7.lt _ _ hm
    have hrb7 := q7.lt _ _ hR0
    have hib7 := ib_lt hi
    have hnC2 : ∀ a, C2 = some a → q0.top ≤ a.block ∧ a.block ≠ ib ∧ a.block ≠ mb ∧ a.block ≠ rb := fun a ea => by
      rcases hst.fresh _ (ho.A a ea) with h5 | h5
      · obtain ⟨g1, g2, g3, g4⟩ := hnoC _ h5; exact ⟨g4, g1, g2, g3⟩
      · have := hle.top; exact ⟨by omega, by omega, by omega, by omega⟩
    have hm := hcs.m _ _ hm (fun e => (hnoC _ e).2.1 rfl)
    have hR0 := hcs.m _ _ hR0 (fun e => (hnoC _ e).2.2.1 rfl)
    have hi := IS.chgL hi hcs (fun x k hk e => by obtain ⟨c9, h9⟩ := Own.lim hown e; rw [hk] at h9; injection h9 with h9; rw [h9]; simp only; omega)
    have hle := hle.chg hcs fun x e => (hnoC x e).2.2.2
    have hq8t := Nat.le_trans hq7t hcs.top
    refine ⟨hSs _ [] hq8t hm, ?_⟩
    have hCE : L.length + 1 = (L ++ [(⟨u, nn⟩ : Ep)]).length := by simp
    have hown : Own q8 2 (.slice C2 (L ++ [(⟨u, nn⟩ : Ep)]).length cc2) (L ++ [(⟨u, nn⟩ : Ep)]).length ((L ++ [(⟨u, nn⟩ : Ep)]).flatMap epL) := by rw [List.length_append, List.flatMap_append]; exact ho
    clear ho
    simp -dsimp -implicitDefEqProofs (disch := first | omega | assumption | (simp only [Option.isSome_some, Qt0]; done) | (simp only [UInt64.reduceToNat, UInt32.reduceToNat, UInt8.reduceToNat, List.length_cons, List.length_nil, List.length_append, Int.toNat_natCast] <;> omega) | fail) only [Nat.reduceLT, Nat.reduceLeDiff, Nat.reduceEqDiff, ↓reduceIte, Int.reduceLT, Int.reduceLE, Int.reduceToNat, Int.reduceEq, Int.reduceNe, Nat.reduceAdd, UInt8.reduceOfNat, UInt16.reduceOfNat, UInt32.reduceOfNat, UInt64.reduceOfNat, UInt64.reduceToNat, UInt32.reduceToNat, UInt16.reduceToNat, UInt8.reduceToNat, Int.reduceAdd, Int.reduceSub, Int.reduceMul, Nat.reduceMul, Qp0, Qp1, Ql0, Qe0, vcUS_done, vcUS_take, vcUS_only, vcUS_both, vcUS_cut, vcUC_nil, vcUC_cons, vcUO_some, vcUL_some, vcUE_some, f2, f4, f5, f9, rd_M, rdM_some, hm, List.set_cons_zero, List.set_cons_succ, List.take_zero, List.drop_succ_cons, List.drop_zero, List.drop_nil, List.nil_append, List.append_nil, List.take_succ_cons, ite_true, PH.new_new, hCE]
    have hi := IS_put hi hm (show (7 : Nat) ≠ 3 by omega) ⟨[.int .i64 4, .slice none 0 0, .slice none 0 0, .int .i64 0, .int .i64 0, .slice C2 (L ++ [(⟨u, nn⟩ : Ep)]).length cc2, .int .i64 0], 7⟩
    have hle := hle.new mb ⟨[.int .i64 4, .slice none 0 0, .slice none 0 0, .int .i64 0, .int .i64 0, .slice C2 (L ++ [(⟨u, nn⟩ : Ep)]).length cc2, .int .i64 0], 7⟩ hmb0
    have hown := hown.put (b := mb) (fun e => by cases C2 with | none => cases e | some a => exact (hnC2 a rfl).2.2.1 (by simpa [Value.ownBlock] using e)) ⟨[.int .i64 4, .slice none 0 0, .slice none 0 0, .int .i64 0, .int .i64 0, .slice C2 (L ++ [(⟨u, nn⟩ : Ep)]).length cc2, .int .i64 0], 7⟩
    have hu2 : ∀ y ∈ L ++ [(⟨u, nn⟩ : Ep)], y.u.length ≤ 100000 := fun y hy => by
      rcases List.mem_append.1 hy with hy | hy
      · exact hu y hy
      · obtain rfl := List.mem_singleton.1 hy
        show u.length ≤ 100000
        omega
    obtain ⟨r', rfl⟩ : ∃ r', r = r' + 1 := ⟨r - 1, by omega⟩
    exact ⟨r', _, by omega, PH.Le.refl _, r', L ++ [⟨u, nn⟩], C2, cc2, s4, rfl, by simp; omega, by trivial, by trivial, by trivial, by simp, by rw [PH.new_m, if_pos rfl], by rw [PH.new_m, if_neg (Ne.symm hne3)]; exact hR0, hi, hle, hown, hnC2, hrunE.snoc e3.symm e4.symm, hu2⟩
  by_cases k1 : K = 1
  · subst k1
    obtain rfl : k = 1 := by omega
    simp -dsimp -implicitDefEqProofs (disch := first | omega | assumption | (simp only [Option.isSome_some, Qt0]; done) | (simp only [UInt64.reduceToNat, UInt32.reduceToNat, UInt8.reduceToNat, List.length_cons, List.length_nil, List.length_append, Int.toNat_natCast] <;> omega) | fail) only [Nat.reduceLT, Nat.reduceLeDiff, Nat.reduceEqDiff, ↓reduceIte, Int.reduceLT, Int.reduceLE, Int.reduceToNat, Int.reduceEq, Int.reduceNe, Nat.reduceAdd, UInt8.reduceOfNat, UInt16.reduceOfNat, UInt32.reduceOfNat, UInt64.reduceOfNat, UInt64.reduceToNat, UInt32.reduceToNat, UInt16.reduceToNat, UInt8.reduceToNat, Int.reduceAdd, Int.reduceSub, Int.reduceMul, Nat.reduceMul, Qp0, Qp1, Ql0, Qe0, rd_M, rdM_some, hm]
    refine (inum_any w0 _ ib s hs9 8 _ hi).mono ?_
    rintro z p15 ⟨rfl, hi, hc⟩
    obtain ⟨⟨n, s2⟩, e2⟩ : ∃ p, p = numS 8 s.length s1 := ⟨_, rfl⟩
    rw [← e2] at hi
    rw [← e2]
    simp only at hi
    have hR0 := hc.m _ _ hR0 hne1
    have hm := hc.m _ _ hm hne2
    have hle := hle.chg hc fun x e => by rw [e]; exact hib0
    have hn8 := numS_most (by omega) e2.symm
    simp -dsimp -implicitDefEqProofs (disch := first | omega | assumption | (simp only [Option.isSome_some, Qt0]; done) | (simp only [UInt64.reduceToNat, UInt32.reduceToNat, UInt8.reduceToNat, List.length_cons, List.length_nil, List.length_append, Int.toNat_natCast] <;> omega) | fail) only [Nat.reduceLT, Nat.reduceLeDiff, Nat.reduceEqDiff, ↓reduceIte, Int.reduceLT, Int.reduceLE, Int.reduceToNat, Int.reduceEq, Int.reduceNe, Nat.reduceAdd, UInt8.reduceOfNat, UInt16.reduceOfNat, UInt32.reduceOfNat, UInt64.reduceOfNat, UInt64.reduceToNat, UInt32.reduceToNat, UInt16.reduceToNat, UInt8.reduceToNat, Int.reduceAdd, Int.reduceSub, Int.reduceMul, Nat.reduceMul, Qp0, Qp1, Ql0, Qe0, rd_M, rdM_some, hm]
    refine PW_loopL (fun fu f h' => ∃ (r : Nat) (L : List Wp) (A : Option Addr) (ca : Nat) (st : St), r = fu ∧ L.length + r = n ∧ f 2 = some (.pointer (some ⟨rb, 0, none⟩)) ∧ f 4 = some (.pointer (some ⟨ib, 0, none⟩)) ∧ f 5 = some (.pointer (some ⟨mb, 0, none⟩)) ∧ f 6 = some (.int .i64 r) ∧ h'.m mb = some ⟨[.int .i64 1, .slice A L.length ca, .slice none 0 0, .int .i64 0, .int .i64 0, .slice none 0 0, .int .i64 0], 7⟩ ∧ h'.m rb = some ⟨[.int .i64 0, .slice none 0 0, .slice none 0 0, .int .i64 0, .int .i64 0, .slice none 0 0, .int .i64 0], 7⟩ ∧ IS h' ib s st ∧ PH.Le q0 h' ∧ Own h' 10 (.slice A L.length ca) L.length (L.flatMap wpL) ∧ (∀ a, A = some a → q0.top ≤ a.block ∧ a.block ≠ ib ∧ a.block ≠ mb ∧ a.block ≠ rb) ∧ WsRun 65536 s.length (L.map (·.1)) s2 st ∧ (∀ y ∈ L, VecOk w0 h' ib mb rb A y ∧ rightW y.1 = true)) (by kernel_rfl) n ⟨n, [], none, 0, s2, rfl, by simp, ?_, ?_, ?_, ?_, hm, hR0, hi, hle, Own.nil _ 10, (fun a e => by cases e), rfl, (fun y hy => by cases hy)⟩ ?_
    · simp -dsimp -implicitDefEqProofs (disch := first | omega | assumption | (simp only [Option.isSome_some, Qt0]; done) | (simp only [UInt64.reduceToNat, UInt32.reduceToNat, UInt8.reduceToNat, List.length_cons, List.length_nil, List.length_append, Int.toNat_natCast] <;> omega) | fail) only [Nat.reduceLT, Nat.reduceLeDiff, Nat.reduceEqDiff, ↓reduceIte, Int.reduceLT, Int.reduceLE, Int.reduceToNat, Int.reduceEq, Int.reduceNe, Nat.reduceAdd, UInt8.reduceOfNat, UInt16.reduceOfNat, UInt32.reduceOfNat, UInt64.reduceOfNat, UInt64.reduceToNat, UInt32.reduceToNat, UInt16.reduceToNat, UInt8.reduceToNat, Int.reduceAdd, Int.reduceSub, Int.reduceMul, Nat.reduceMul, Qp0, Qp1, Ql0, Qe0]
    · simp -dsimp -implicitDefEqProofs (disch := first | omega | assumption | (simp only [Option.isSome_some, Qt0]; done) | (simp only [UInt64.reduceToNat, UInt32.reduceToNat, UInt8.reduceToNat, List.length_cons, List.length_nil, List.length_append, Int.toNat_natCast] <;> omega) | fail) only [Nat.reduceLT, Nat.reduceLeDiff, Nat.reduceEqDiff, ↓reduceIte, Int.reduceLT, Int.reduceLE, Int.reduceToNat, Int.reduceEq, Int.reduceNe, Nat.reduceAdd, UInt8.reduceOfNat, UInt16.reduceOfNat, UInt32.reduceOfNat, UInt64.reduceOfNat, UInt64.reduceToNat, UInt32.reduceToNat, UInt16.reduceToNat, UInt8.reduceToNat, Int.reduceAdd, Int.reduceSub, Int.reduceMul, Nat.reduceMul, Qp0, Qp1, Ql0, Qe0]
    · simp -dsimp -implicitDefEqProofs (disch := first | omega | assumption | (simp only [Option.isSome_some, Qt0]; done) | (simp only [UInt64.reduceToNat, UInt32.reduceToNat, UInt8.reduceToNat, List.length_cons, List.length_nil, List.length_append, Int.toNat_natCast] <;> omega) | fail) only [Nat.reduceLT, Nat.reduceLeDiff, Nat.reduceEqDiff, ↓reduceIte, Int.reduceLT, Int.reduceLE, Int.reduceToNat, Int.reduceEq, Int.reduceNe, Nat.reduceAdd, UInt8.reduceOfNat, UInt16.reduceOfNat, UInt32.reduceOfNat, UInt64.reduceOfNat, UInt64.reduceToNat, UInt32.reduceToNat, UInt16.reduceToNat, UInt8.reduceToNat, Int.reduceAdd, Int.reduceSub, Int.reduceMul, Nat.reduceMul, Qp0, Qp1, Ql0, Qe0]
    · simp -dsimp -implicitDefEqProofs (disch := first | omega | assumption | (simp only [Option.isSome_some, Qt0]; done) | (simp only [UInt64.reduceToNat, UInt32.reduceToNat, UInt8.reduceToNat, List.length_cons, List.length_nil, List.length_append, Int.toNat_natCast] <;> omega) | fail) only [Nat.reduceLT, Nat.reduceLeDiff, Nat.reduceEqDiff, ↓reduceIte, Int.reduceLT, Int.reduceLE, Int.reduceToNat, Int.reduceEq, Int.reduceNe, Nat.reduceAdd, UInt8.reduceOfNat, UInt16.reduceOfNat, UInt32.reduceOfNat, UInt64.reduceOfNat, UInt64.reduceToNat, UInt32.reduceToNat, UInt16.reduceToNat, UInt8.reduceToNat, Int.reduceAdd, Int.reduceSub, Int.reduceMul, Nat.reduceMul, Qp0, Qp1, Ql0, Qe0]
    clear hm hR0 hi hle hc
    rintro fu f h' ⟨r, L, A, ca, st, rfl, hLr, f2, f4, f5, f6, hm, hR0, hi, hle, hown, hnA, hrunW, hL⟩ hlow'
    have hLc : L.length ≤ ca := by obtain ⟨_, _, hA, hcap⟩ := hown.len; injection hA with hA1 hA2 hA3; omega
    have hdl : ∀ y : Wp, rightW y.1 = true → y.1.d.length ≤ 16 := fun y hy => by have := rightW_iff.1 hy; exact trim_len this.2.2.2.2.2.1
    by_cases hr0 : r = 0
    · subst hr0
      have e0 : decide (((0 : Nat) : Int) > 0) = false := rfl
      have hwr : Rv w0 h' A (L.flatMap wpL) := Rv.own hown
      have hll : (L.map (·.1)).length = L.length := List.length_map ..
      rw [← hll] at hm
      simp -dsimp -implicitDefEqProofs (disch := first | omega | assumption | (simp only [Option.isSome_some, Qt0]; done) | (simp only [UInt64.reduceToNat, UInt32.reduceToNat, UInt8.reduceToNat, List.length_cons, List.length_nil, List.length_append, Int.toNat_natCast] <;> omega) | fail) only [Nat.reduceLT, Nat.reduceLeDiff, Nat.reduceEqDiff, ↓reduceIte, Int.reduceLT, Int.reduceLE, Int.reduceToNat, Int.reduceEq, Int.reduceNe, Nat.reduceAdd, UInt8.reduceOfNat, UInt16.reduceOfNat, UInt32.reduceOfNat, UInt64.reduceOfNat, UInt64.reduceToNat, UInt32.reduceToNat, UInt16.reduceToNat, UInt8.reduceToNat, Int.reduceAdd, Int.reduceSub, Int.reduceMul, Nat.reduceMul, Qp0, Qp1, Ql0, Qe0, f2, f4, f5, f6, e0, rd_M, rdM_some, hm]
      have hRM : MsR w0 h' ⟨1, L.map (·.1), [], 0, 0, [], 0⟩ ⟨L, A, none, none, ca, 0, 0⟩ := ⟨rfl, (fun y hy => ⟨(hL y hy).1.1, (hL y hy).1.2.1⟩), hwr, Rv.nil _ _ _, Rv.nil _ _ _, by show (L.map (·.1)).length ≤ ca; omega, Nat.le_refl _, Nat.le_refl _⟩
      have hFM : Fits ⟨1, L.map (·.1), [], 0, 0, [], 0⟩ := ⟨by show (L.map (·.1)).length ≤ 100; omega, by simp, by simp, fun x hx => by obtain ⟨y, hy, rfl⟩ := List.mem_map.1 hx; have h1 := rightW_iff.1 (hL y hy).2; have h2 := hdl y (hL y hy).2; exact ⟨by omega, by omega, by omega, by omega⟩, fun x hx => by simp at hx⟩
      have hrun : RunM bdD s.length s ⟨1, L.map (·.1), [], 0, 0, [], 0⟩ _ := ⟨1, s1, ek, .inl ⟨rfl, n, s2, _, e2.symm, by rw [hll]; omega, hrunW, rfl⟩⟩
      have haM : allOne [.int .i64 1, .slice A (L.map (·.1)).length ca, .slice none 0 0, .int .i64 0, .int .i64 0, .slice none 0 0, .int .i64 0] := allOne_of _ rfl
      try simp -dsimp -implicitDefEqProofs (disch := first | omega | assumption | (simp only [Option.isSome_some, Qt0]; done) | (simp only [UInt64.reduceToNat, UInt32.reduceToNat, UInt8.reduceToNat, List.length_cons, List.length_nil, List.length_append, Int.toNat_natCast] <;> omega) | fail) only [Nat.reduceLT, Nat.reduceLeDiff, Nat.reduceEqDiff, ↓reduceIte, Int.reduceLT, Int.reduceLE, Int.reduceToNat, Int.reduceEq, Int.reduceNe, Nat.reduceAdd, UInt8.reduceOfNat, UInt16.reduceOfNat, UInt32.reduceOfNat, UInt64.reduceOfNat, UInt64.reduceToNat, UInt32.reduceToNat, UInt16.reduceToNat, UInt8.reduceToNat, Int.reduceAdd, Int.reduceSub, Int.reduceMul, Nat.reduceMul, Qp0, Qp1, Ql0, Qe0, rd_M, rdM_some, hm, f2, f4, f5]
      refine (end_any w0 h' ib s _ hi).mono ?_
      rintro z q8 ⟨he, hl8⟩
      have hm8 := hl8.m _ _ hm
      have hr8 := hl8.m _ _ hR0
      have hC8 : rdN w0 q8 ⟨mb, 0, none⟩ 7 = some [.int .i64 1, .slice A (L.map (·.1)).length ca, .slice none 0 0, .int .i64 0, .int .i64 0, .slice none 0 0, .int .i64 0] := by unfold rdN; simp only [hm8]; rfl
      have hR8 := hRM.more hl8
      have hle8 := hle.trans hl8
      rcases EE_told he with ⟨hok, rfl⟩ | ⟨hn, be, pe, rfl, hbe⟩
      · have hRt := right_any w0 q8 _ _ hR8 hFM
        unfold msL at hRt
        simp only [List.length_nil] at hRt
        cases hr : rightM ⟨1, L.map (·.1), [], 0, 0, [], 0⟩ with
        | true =>
          rw [hr] at hRt
          simp -dsimp -implicitDefEqProofs (disch := first | omega | assumption | (simp only [Option.isSome_some, Qt0]; done) | (simp only [UInt64.reduceToNat, UInt32.reduceToNat, UInt8.reduceToNat, List.length_cons, List.length_nil, List.length_append, Int.toNat_natCast] <;> omega) | fail) only [Nat.reduceLT, Nat.reduceLeDiff, Nat.reduceEqDiff, ↓reduceIte, Int.reduceLT, Int.reduceLE, Int.reduceToNat, Int.reduceEq, Int.reduceNe, Nat.reduceAdd, UInt8.reduceOfNat, UInt16.reduceOfNat, UInt32.reduceOfNat, UInt64.reduceOfNat, UInt64.reduceToNat, UInt32.reduceToNat, UInt16.reduceToNat, UInt8.reduceToNat, Int.reduceAdd, Int.reduceSub, Int.reduceMul, Nat.reduceMul, Qp0, Qp1, Ql0, Qe0, hC8, f2, f4, f5]
          refine hRt.mono ?_
          rintro z q9 ⟨rfl, hl9⟩
          have hr9 := hl9.m _ _ hr8
          have hm9 := hl9.m _ _ hm8
          have hC9 : rdN w0 q9 ⟨mb, 0, none⟩ 7 = some [.int .i64 1, .slice A (L.map (·.1)).length ca, .slice none 0 0, .int .i64 0, .int .i64 0, .slice none 0 0, .int .i64 0] := by unfold rdN; simp only [hm9]; rfl
          have hR9 := hR8.more hl9
          simp -dsimp -implicitDefEqProofs (disch := first | omega | assumption | (simp only [Option.isSome_some, Qt0]; done) | (simp only [UInt64.reduceToNat, UInt32.reduceToNat, UInt8.reduceToNat, List.length_cons, List.length_nil, List.length_append, Int.toNat_natCast] <;> omega) | fail) only [Nat.reduceLT, Nat.reduceLeDiff, Nat.reduceEqDiff, ↓reduceIte, Int.reduceLT, Int.reduceLE, Int.reduceToNat, Int.reduceEq, Int.reduceNe, Nat.reduceAdd, UInt8.reduceOfNat, UInt16.reduceOfNat, UInt32.reduceOfNat, UInt64.reduceOfNat, UInt64.reduceToNat, UInt32.reduceToNat, UInt16.reduceToNat, UInt8.reduceToNat, Int.reduceAdd, Int.reduceSub, Int.reduceMul, Nat.reduceMul, Qp0, Qp1, Ql0, Qe0, hC9, hr9, rdN_new, List.set_cons_zero, List.set_cons_succ, List.take_zero, List.drop_succ_cons, List.drop_zero, List.drop_nil, List.nil_append, List.append_nil, List.take_succ_cons, ite_true, PH.new_new, f2, f4, f5]
          refine ⟨_, PH.Le.refl _, .inl ⟨⟨1, L.map (·.1), [], 0, 0, [], 0⟩, ⟨L, A, none, none, ca, 0, 0⟩, hr, by rw [hok] at hrun; exact hrun.back hr, by first | rfl | trivial, ?_, hFM⟩, hlq.trans ((hle8.trans hl9).new _ _ hrb0)⟩
          exact hR9.chg (F := (· = rb)) ((Chg.refl _ _).one _) (fun a e => (hnA a e).2.2.2) (fun a e => by cases e) (fun a e => by cases e) (fun y hy hd a ea => ((hL y hy).1.2.2 hd a ea).2.2.2.1)
        | false =>
          rw [hr] at hRt
          simp -dsimp -implicitDefEqProofs (disch := first | omega | assumption | (simp only [Option.isSome_some, Qt0]; done) | (simp only [UInt64.reduceToNat, UInt32.reduceToNat, UInt8.reduceToNat, List.length_cons, List.length_nil, List.length_append, Int.toNat_natCast] <;> omega) | fail) only [Nat.reduceLT, Nat.reduceLeDiff, Nat.reduceEqDiff, ↓reduceIte, Int.reduceLT, Int.reduceLE, Int.reduceToNat, Int.reduceEq, Int.reduceNe, Nat.reduceAdd, UInt8.reduceOfNat, UInt16.reduceOfNat, UInt32.reduceOfNat, UInt64.reduceOfNat, UInt64.reduceToNat, UInt32.reduceToNat, UInt16.reduceToNat, UInt8.reduceToNat, Int.reduceAdd, Int.reduceSub, Int.reduceMul, Nat.reduceMul, Qp0, Qp1, Ql0, Qe0, hC8, f2, f4, f5]
          refine hRt.mono ?_
          rintro z q9 ⟨rfl, hl9⟩
          have hr9 := hl9.m _ _ hr8
          simp -dsimp -implicitDefEqProofs (disch := first | omega | assumption | (simp only [Option.isSome_some, Qt0]; done) | (simp only [UInt64.reduceToNat, UInt32.reduceToNat, UInt8.reduceToNat, List.length_cons, List.length_nil, List.length_append, Int.toNat_natCast] <;> omega) | fail) only [Nat.reduceLT, Nat.reduceLeDiff, Nat.reduceEqDiff, ↓reduceIte, Int.reduceLT, Int.reduceLE, Int.reduceToNat, Int.reduceEq, Int.reduceNe, Nat.reduceAdd, UInt8.reduceOfNat, UInt16.reduceOfNat, UInt32.reduceOfNat, UInt64.reduceOfNat, UInt64.reduceToNat, UInt32.reduceToNat, UInt16.reduceToNat, UInt8.reduceToNat, Int.reduceAdd, Int.reduceSub, Int.reduceMul, Nat.reduceMul, Qp0, Qp1, Ql0, Qe0, f2, f4, f5]
          refine (tbad_any 2 w0 _).mono ?_
          rintro z qa ⟨⟨be, rfl, hbm⟩, hla⟩
          have hra := hla.m _ _ hr9
          have hnb : be ≠ rb := fun e => by
            rw [e, hra] at hbm
            injection hbm with hbm
            injection hbm with _ hbm
            omega
          unfold errV
          simp -dsimp -implicitDefEqProofs (disch := first | omega | assumption | (simp only [Option.isSome_some, Qt0]; done) | (simp only [UInt64.reduceToNat, UInt32.reduceToNat, UInt8.reduceToNat, List.length_cons, List.length_nil, List.length_append, Int.toNat_natCast] <;> omega) | fail) only [Nat.reduceLT, Nat.reduceLeDiff, Nat.reduceEqDiff, ↓reduceIte, Int.reduceLT, Int.reduceLE, Int.reduceToNat, Int.reduceEq, Int.reduceNe, Nat.reduceAdd, UInt8.reduceOfNat, UInt16.reduceOfNat, UInt32.reduceOfNat, UInt64.reduceOfNat, UInt64.reduceToNat, UInt32.reduceToNat, UInt16.reduceToNat, UInt8.reduceToNat, Int.reduceAdd, Int.reduceSub, Int.reduceMul, Nat.reduceMul, Qp0, Qp1, Ql0, Qe0, hra, rdN_new, List.set_cons_zero, List.set_cons_succ, List.take_zero, List.drop_succ_cons, List.drop_zero, List.drop_nil, List.nil_append, List.append_nil, List.take_succ_cons, ite_true, PH.new_new, f2, f4, f5]
          exact ⟨_, PH.Le.refl _, .inr ⟨no_m bdD_ok hrun (.inr hr), _, .wrap talkT 0 (.code 2), by first | rfl | trivial, ⟨be, _, rfl, by rw [PH.new_m, if_neg hnb]; exact hbm, rfl⟩, rfl⟩, hlq.trans (((hle8.trans hl9).trans hla).new _ _ hrb0)⟩
      · unfold errV
        simp -dsimp -implicitDefEqProofs (disch := first | omega | assumption | (simp only [Option.isSome_some, Qt0]; done) | (simp only [UInt64.reduceToNat, UInt32.reduceToNat, UInt8.reduceToNat, List.length_cons, List.length_nil, List.length_append, Int.toNat_natCast] <;> omega) | fail) only [Nat.reduceLT, Nat.reduceLeDiff, Nat.reduceEqDiff, ↓reduceIte, Int.reduceLT, Int.reduceLE, Int.reduceToNat, Int.reduceEq, Int.reduceNe, Nat.reduceAdd, UInt8.reduceOfNat, UInt16.reduceOfNat, UInt32.reduceOfNat, UInt64.reduceOfNat, UInt64.reduceToNat, UInt32.reduceToNat, UInt16.reduceToNat, UInt8.reduceToNat, Int.reduceAdd, Int.reduceSub, Int.reduceMul, Nat.reduceMul, Qp0, Qp1, Ql0, Qe0, f2, f4, f5]
        refine (tbad_any 2 w0 _).mono ?_
        rintro z qa ⟨⟨be2, rfl, hbm⟩, hla⟩
        have hra := hla.m _ _ hr8
        have hnb : be2 ≠ rb := fun e => by
          rw [e, hra] at hbm
          injection hbm with hbm
          injection hbm with _ hbm
          omega
        unfold errV
        simp -dsimp -implicitDefEqProofs (disch := first | omega | assumption | (simp only [Option.isSome_some, Qt0]; done) | (simp only [UInt64.reduceToNat, UInt32.reduceToNat, UInt8.reduceToNat, List.length_cons, List.length_nil, List.length_append, Int.toNat_natCast] <;> omega) | fail) only [Nat.reduceLT, Nat.reduceLeDiff, Nat.reduceEqDiff, ↓reduceIte, Int.reduceLT, Int.reduceLE, Int.reduceToNat, Int.reduceEq, Int.reduceNe, Nat.reduceAdd, UInt8.reduceOfNat, UInt16.reduceOfNat, UInt32.reduceOfNat, UInt64.reduceOfNat, UInt64.reduceToNat, UInt32.reduceToNat, UInt16.reduceToNat, UInt8.reduceToNat, Int.reduceAdd, Int.reduceSub, Int.reduceMul, Nat.reduceMul, Qp0, Qp1, Ql0, Qe0, hra, rdN_new, List.set_cons_zero, List.set_cons_succ, List.take_zero, List.drop_succ_cons, List.drop_zero, List.drop_nil, List.nil_append, List.append_nil, List.take_succ_cons, ite_true, PH.new_new, f2, f4, f5]
        exact ⟨_, PH.Le.refl _, .inr ⟨no_m bdD_ok hrun (.inl hn), _, .wrap talkT 0 (.code 2), by first | rfl | trivial, ⟨be2, _, rfl, by rw [PH.new_m, if_neg hnb]; exact hbm, rfl⟩, rfl⟩, hlq.trans ((hle8.trans hla).new _ _ hrb0)⟩
    have e0 : decide ((r : Int) > 0) = true := decide_eq_true (by omega)
    simp -dsimp -implicitDefEqProofs (disch := first | omega | assumption | (simp only [Option.isSome_some, Qt0]; done) | (simp only [UInt64.reduceToNat, UInt32.reduceToNat, UInt8.reduceToNat, List.length_cons, List.length_nil, List.length_append, Int.toNat_natCast] <;> omega) | fail) only [Nat.reduceLT, Nat.reduceLeDiff, Nat.reduceEqDiff, ↓reduceIte, Int.reduceLT, Int.reduceLE, Int.reduceToNat, Int.reduceEq, Int.reduceNe, Nat.reduceAdd, UInt8.reduceOfNat, UInt16.reduceOfNat, UInt32.reduceOfNat, UInt64.reduceOfNat, UInt64.reduceToNat, UInt32.reduceToNat, UInt16.reduceToNat, UInt8.reduceToNat, Int.reduceAdd, Int.reduceSub, Int.reduceMul, Nat.reduceMul, Qp0, Qp1, Ql0, Qe0, f2, f4, f5, f6, e0, rd_M, rdM_some, hm]
    refine (itext_any w0 _ ib s hs9 65536 _ hi).mono ?_
    rintro z q5 ⟨rfl, hi, hc⟩
    obtain ⟨⟨yb, s3⟩, e3⟩ : ∃ p, p = txtS 65536 s.length st := ⟨_, rfl⟩
    rw [← e3] at hi
    rw [← e3]
    simp only at hi
    have hy65 := txtS_most (by omega) e3.symm
    have hR0 := hc.m _ _ hR0 hne1
    have hm := hc.m _ _ hm hne2
    have hle := hle.chg hc fun x e => by rw [e]; exact hib0
    have hown := hown.chg hc fun x e f => by cases A with | none => cases e | some a => exact (hnA a rfl).2.1 (by rw [← f]; simpa [Value.ownBlock] using e)
    have hL := fun y hy => And.intro ((hL y hy).1.chg hc fun x _ e => .inl e) (hL y hy).2
    simp -dsimp -implicitDefEqProofs (disch := first | omega | assumption | (simp only [Option.isSome_some, Qt0]; done) | (simp only [UInt64.reduceToNat, UInt32.reduceToNat, UInt8.reduceToNat, List.length_cons, List.length_nil, List.length_append, Int.toNat_natCast] <;> omega) | fail) only [Nat.reduceLT, Nat.reduceLeDiff, Nat.reduceEqDiff, ↓reduceIte, Int.reduceLT, Int.reduceLE, Int.reduceToNat, Int.reduceEq, Int.reduceNe, Nat.reduceAdd, UInt8.reduceOfNat, UInt16.reduceOfNat, UInt32.reduceOfNat, UInt64.reduceOfNat, UInt64.reduceToNat, UInt32.reduceToNat, UInt16.reduceToNat, UInt8.reduceToNat, Int.reduceAdd, Int.reduceSub, Int.reduceMul, Nat.reduceMul, Qp0, Qp1, Ql0, Qe0, f2, f4, f5, f6]
    refine (decWF_any yb (by omega) w0 q5).mono ?_
    rintro z q6 ⟨hD, hl6⟩
    have hmb5 := q5.lt _ _ hm
    have hrb5 := q5.lt _ _ hR0
    have hib5 := ib_lt hi
    have hA5 : ∀ c, A = some c → c.block < q5.top := fun c e => hown.block (hown.A c e)
    have hut5 : w0.heap.size ≤ q5.top := by have := hle.top; omega
    have hm := hl6.m _ _ hm
    have hR0 := hl6.m _ _ hR0
    have hi := hi.more hl6
    have hle := hle.trans hl6
    have hown := hown.more hl6
    have hL := fun y hy => And.intro ((hL y hy).1.chg (F := fun _ => False) (Chg.le hl6) fun x _ e => e.elim) (hL y hy).2
    have hzw := allOne_of [.int .i64 0, .int .i64 0, .int .i64 0, .int .i64 0, .slice none 0 0, .string ⟨#[]⟩, .string ⟨#[]⟩, .string ⟨#[]⟩, .bool false, .int .i64 0] rfl
    rcases hD with ⟨y, Ay, cy, hy, rfl, hcy, hry, hfy⟩ | ⟨hno, ev, ee, rfl, hev, _⟩
    rotate_left
    · obtain ⟨et, eu, rfl⟩ := hev.held
      unfold wtL wtZ
      simp -dsimp -implicitDefEqProofs (disch := first | omega | assumption | (simp only [Option.isSome_some, Qt0]; done) | (simp only [UInt64.reduceToNat, UInt32.reduceToNat, UInt8.reduceToNat, List.length_cons, List.length_nil, List.length_append, Int.toNat_natCast] <;> omega) | fail) only [Nat.reduceLT, Nat.reduceLeDiff, Nat.reduceEqDiff, ↓reduceIte, Int.reduceLT, Int.reduceLE, Int.reduceToNat, Int.reduceEq, Int.reduceNe, Nat.reduceAdd, UInt8.reduceOfNat, UInt16.reduceOfNat, UInt32.reduceOfNat, UInt64.reduceOfNat, UInt64.reduceToNat, UInt32.reduceToNat, UInt16.reduceToNat, UInt8.reduceToNat, Int.reduceAdd, Int.reduceSub, Int.reduceMul, Nat.reduceMul, Qp0, Qp1, Ql0, Qe0, f2, f4, f5, f6]
      refine fun wb hwb => ?_
      have hl7 := (PH.Le.refl q6).new wb ⟨[.int .i64 0, .int .i64 0, .int .i64 0, .int .i64 0, .slice none 0 0, str [], str [], str [], .bool false, .int .i64 0], 10⟩ hwb
      have hl7' := (PH.Le.refl q6).new wb ⟨[.int .i64 0, .int .i64 0, .int .i64 0, .int .i64 0, .slice none 0 0, .string ⟨#[]⟩, .string ⟨#[]⟩, .string ⟨#[]⟩, .bool false, .int .i64 0], 10⟩ hwb
      have hzw2 := allOne_of [.int .i64 0, .int .i64 0, .int .i64 0, .int .i64 0, .slice none 0 0, str [], str [], str [], .bool false, .int .i64 0] rfl
      simp -dsimp -implicitDefEqProofs (disch := first | omega | assumption | (simp only [Option.isSome_some, Qt0]; done) | (simp only [UInt64.reduceToNat, UInt32.reduceToNat, UInt8.reduceToNat, List.length_cons, List.length_nil, List.length_append, Int.toNat_natCast] <;> omega) | fail) only [Nat.reduceLT, Nat.reduceLeDiff, Nat.reduceEqDiff, ↓reduceIte, Int.reduceLT, Int.reduceLE, Int.reduceToNat, Int.reduceEq, Int.reduceNe, Nat.reduceAdd, UInt8.reduceOfNat, UInt16.reduceOfNat, UInt32.reduceOfNat, UInt64.reduceOfNat, UInt64.reduceToNat, UInt32.reduceToNat, UInt16.reduceToNat, UInt8.reduceToNat, Int.reduceAdd, Int.reduceSub, Int.reduceMul, Nat.reduceMul, Qp0, Qp1, Ql0, Qe0, f2, f4, f5, f6, List.set_cons_zero, List.set_cons_succ, List.take_zero, List.drop_succ_cons, List.drop_zero, List.drop_nil, List.nil_append, List.append_nil, List.take_succ_cons, ite_true, PH.new_new, List.length_nil]
      refine (tbad_any 2 w0 _).mono ?_
      rintro z qa ⟨⟨be, rfl, hbm⟩, hla⟩
      have hra := hla.m _ _ (by first | exact hl7.m _ _ hR0 | exact hl7'.m _ _ hR0)
      have hnb : be ≠ rb := fun e => by
        rw [e, hra] at hbm
        injection hbm with hbm
        injection hbm with _ hbm
        omega
      have hleA : PH.Le q0 qa := by first | exact (hle.trans hl7).trans hla | exact (hle.trans hl7').trans hla
      unfold errV
      simp -dsimp -implicitDefEqProofs (disch := first | omega | assumption | (simp only [Option.isSome_some, Qt0]; done) | (simp only [UInt64.reduceToNat, UInt32.reduceToNat, UInt8.reduceToNat, List.length_cons, List.length_nil, List.length_append, Int.toNat_natCast] <;> omega) | fail) only [Nat.reduceLT, Nat.reduceLeDiff, Nat.reduceEqDiff, ↓reduceIte, Int.reduceLT, Int.reduceLE, Int.reduceToNat, Int.reduceEq, Int.reduceNe, Nat.reduceAdd, UInt8.reduceOfNat, UInt16.reduceOfNat, UInt32.reduceOfNat, UInt64.reduceOfNat, UInt64.reduceToNat, UInt32.reduceToNat, UInt16.reduceToNat, UInt8.reduceToNat, Int.reduceAdd, Int.reduceSub, Int.reduceMul, Nat.reduceMul, Qp0, Qp1, Ql0, Qe0, f2, f4, f5, f6, hra, rdN_new, List.set_cons_zero, List.set_cons_succ, List.take_zero, List.drop_succ_cons, List.drop_zero, List.drop_nil, List.nil_append, List.append_nil, List.take_succ_cons, ite_true, PH.new_new]
      refine ⟨_, PH.Le.refl _, .inr ⟨fun m hr e => ?_, _, .wrap talkT 0 (.code 2), by first | rfl | trivial, ⟨be, _, rfl, by rw [PH.new_m, if_neg hnb]; exact hbm, rfl⟩, rfl⟩, hlq.trans (hleA.new _ _ hrb0)⟩
      exact RunM.stuck bdD_ok hr e ek e2.symm (L := L.map (fun q : Wp => q.1)) (by rw [List.length_map]; omega) (show WsRun bdD.t _ _ _ _ from hrunW) (show txtS bdD.t _ _ = _ from e3.symm) hno
    unfold wtL
    have haw := allOne_of [.int .i64 y.r, .int .i64 y.n, .int .i64 y.t, .int .i64 y.q, .slice Ay y.d.length cy, str y.s, str y.k, str y.v, .bool y.g, .int .i64 y.l] rfl
    simp -dsimp -implicitDefEqProofs (disch := first | omega | assumption | (simp only [Option.isSome_some, Qt0]; done) | (simp only [UInt64.reduceToNat, UInt32.reduceToNat, UInt8.reduceToNat, List.length_cons, List.length_nil, List.length_append, Int.toNat_natCast] <;> omega) | fail) only [Nat.reduceLT, Nat.reduceLeDiff, Nat.reduceEqDiff, ↓reduceIte, Int.reduceLT, Int.reduceLE, Int.reduceToNat, Int.reduceEq, Int.reduceNe, Nat.reduceAdd, UInt8.reduceOfNat, UInt16.reduceOfNat, UInt32.reduceOfNat, UInt64.reduceOfNat, UInt64.reduceToNat, UInt32.reduceToNat, UInt16.reduceToNat, UInt8.reduceToNat, Int.reduceAdd, Int.reduceSub, Int.reduceMul, Nat.reduceMul, Qp0, Qp1, Ql0, Qe0, f2, f4, f5, f6]
    refine fun wb hwb => ?_
    have hwb6 : q6.top ≤ wb := hwb
    have hl7 := (PH.Le.refl q6).new wb ⟨[.int .i64 y.r, .int .i64 y.n, .int .i64 y.t, .int .i64 y.q, .slice Ay y.d.length cy, str y.s, str y.k, str y.v, .bool y.g, .int .i64 y.l], 10⟩ hwb
    have hw7 : (q6.new wb ⟨[.int .i64 y.r, .int .i64 y.n, .int .i64 y.t, .int .i64 y.q, .slice Ay y.d.length cy, str y.s, str y.k, str y.v, .bool y.g, .int .i64 y.l], 10⟩).m wb = some ⟨[.int .i64 y.r, .int .i64 y.n, .int .i64 y.t, .int .i64 y.q, .slice Ay y.d.length cy, str y.s, str y.k, str y.v, .bool y.g, .int .i64 y.l], 10⟩ := by rw [PH.new_m, if_pos rfl]
    have hv7 : VecOk w0 q6 ib mb rb A (y, Ay, cy) := VecOk.fresh hcy hry hfy hut5 hib5 hmb5 hrb5 hA5
    have hm6 := q6.lt _ _ hm
    have hm := hl7.m _ _ hm
    have hR0 := hl7.m _ _ hR0
    have hi := hi.more hl7
    have hle := hle.trans hl7
    have hown := hown.more hl7
    have hL := fun y hy => And.intro ((hL y hy).1.chg (F := fun _ => False) (Chg.le hl7) fun x _ e => e.elim) (hL y hy).2
    have hv7 := hv7.chg (F := fun _ => False) (Chg.le hl7) fun x _ e => e.elim
    simp -dsimp -implicitDefEqProofs (disch := first | omega | assumption | (simp only [Option.isSome_some, Qt0]; done) | (simp only [UInt64.reduceToNat, UInt32.reduceToNat, UInt8.reduceToNat, List.length_cons, List.length_nil, List.length_append, Int.toNat_natCast] <;> omega) | fail) only [Nat.reduceLT, Nat.reduceLeDiff, Nat.reduceEqDiff, ↓reduceIte, Int.reduceLT, Int.reduceLE, Int.reduceToNat, Int.reduceEq, Int.reduceNe, Nat.reduceAdd, UInt8.reduceOfNat, UInt16.reduceOfNat, UInt32.reduceOfNat, UInt64.reduceOfNat, UInt64.reduceToNat, UInt32.reduceToNat, UInt16.reduceToNat, UInt8.reduceToNat, Int.reduceAdd, Int.reduceSub, Int.reduceMul, Nat.reduceMul, Qp0, Qp1, Ql0, Qe0, f2, f4, f5, f6, List.set_cons_zero, List.set_cons_succ, List.take_zero, List.drop_succ_cons, List.drop_zero, List.drop_nil, List.nil_append, List.append_nil, List.take_succ_cons, ite_true, PH.new_new]
    generalize q6.new wb ⟨[.int .i64 y.r, .int .i64 y.n, .int .i64 y.t, .int .i64 y.q, .slice Ay y.d.length cy, str y.s, str y.k, str y.v, .bool y.g, .int .i64 y.l], 10⟩ = q7 at *
    have hC7 : rdN w0 q7 ⟨wb, 0, none⟩ 10 = some [.int .i64 y.r, .int .i64 y.n, .int .i64 y.t, .int .i64 y.q, .slice Ay y.d.length cy, str y.s, str y.k, str y.v, .bool y.g, .int .i64 y.l] := by unfold rdN; simp only [hw7]; rfl
    try simp -dsimp -implicitDefEqProofs (disch := first | omega | assumption | (simp only [Option.isSome_some, Qt0]; done) | (simp only [UInt64.reduceToNat, UInt32.reduceToNat, UInt8.reduceToNat, List.length_cons, List.length_nil, List.length_append, Int.toNat_natCast] <;> omega) | fail) only [Nat.reduceLT, Nat.reduceLeDiff, Nat.reduceEqDiff, ↓reduceIte, Int.reduceLT, Int.reduceLE, Int.reduceToNat, Int.reduceEq, Int.reduceNe, Nat.reduceAdd, UInt8.reduceOfNat, UInt16.reduceOfNat, UInt32.reduceOfNat, UInt64.reduceOfNat, UInt64.reduceToNat, UInt32.reduceToNat, UInt16.reduceToNat, UInt8.reduceToNat, Int.reduceAdd, Int.reduceSub, Int.reduceMul, Nat.reduceMul, Qp0, Qp1, Ql0, Qe0, f2, f4, f5, f6, rd_M, rdM_some, hm, hC7]
    refine Does_one (v := .agg #[.int .i64 y.r, .int .i64 y.n, .int .i64 y.t, .int .i64 y.q, .slice Ay y.d.length cy, str y.s, str y.k, str y.v, .bool y.g, .int .i64 y.l]) el_wt rfl (by omega) fun gb hgb => ?_
    have hMARK : True := trivial
    have hl8 := (PH.Le.refl q7).new gb ⟨(Value.agg #[.int .i64 y.r, .int .i64 y.n, .int .i64 y.t, .int .i64 y.q, .slice Ay y.d.length cy, str y.s, str y.k, str y.v, .bool y.g, .int .i64 y.l]).cells.toList, 10⟩ hgb
    have hgm : (q7.new gb ⟨(Value.agg #[.int .i64 y.r, .int .i64 y.n, .int .i64 y.t, .int .i64 y.q, .slice Ay y.d.length cy, str y.s, str y.k, str y.v, .bool y.g, .int .i64 y.l]).cells.toList, 10⟩).m gb = some ⟨wpL (y, Ay, cy), 10⟩ := by rw [PH.new_m, if_pos rfl]; rfl
    generalize q7.new gb ⟨(Value.agg #[.int .i64 y.r, .int .i64 y.n, .int .i64 y.t, .int .i64 y.q, .slice Ay y.d.length cy, str y.s, str y.k, str y.v, .bool y.g, .int .i64 y.l]).cells.toList, 10⟩ = q8 at *
    have hm := hl8.m _ _ hm
    have hR0 := hl8.m _ _ hR0
    have hi := hi.more hl8
    have hle := hle.trans hl8
    have hown := hown.more hl8
    have hL := fun y hy => And.intro ((hL y hy).1.chg (F := fun _ => False) (Chg.le hl8) fun x _ e => e.elim) (hL y hy).2
    have hv7 := hv7.chg (F := fun _ => False) (Chg.le hl8) fun x _ e => e.elim
    simp -dsimp -implicitDefEqProofs (disch := first | omega | assumption | (simp only [Option.isSome_some, Qt0]; done) | (simp only [UInt64.reduceToNat, UInt32.reduceToNat, UInt8.reduceToNat, List.length_cons, List.length_nil, List.length_append, Int.toNat_natCast] <;> omega) | fail) only [Nat.reduceLT, Nat.reduceLeDiff, Nat.reduceEqDiff, ↓reduceIte, Int.reduceLT, Int.reduceLE, Int.reduceToNat, Int.reduceEq, Int.reduceNe, Nat.reduceAdd, UInt8.reduceOfNat, UInt16.reduceOfNat, UInt32.reduceOfNat, UInt64.reduceOfNat, UInt64.reduceToNat, UInt32.reduceToNat, UInt16.reduceToNat, UInt8.reduceToNat, Int.reduceAdd, Int.reduceSub, Int.reduceMul, Nat.reduceMul, Qp0, Qp1, Ql0, Qe0, f2, f4, f5, f6]
    refine Does_app2 el_wt hown (Rs.blk (k := ⟨wpL (y, Ay, cy), 10⟩) hgm rfl) (wpL_one (y, Ay, cy)) (by unfold maxLen; omega) (by omega) (fun v' q9 ho hst hsub => ?_)
    obtain ⟨A2, ca2, rfl, hca2⟩ := ho.len
    have hcs := hst.chg
    have hnoA : ∀ x, (Value.slice A L.length ca).ownBlock = some x → (∃ c, A = some c ∧ x = c.block) ∧ x ≠ ib ∧ x ≠ mb ∧ x ≠ rb ∧ q0.top ≤ x := fun x e => by cases A with | none => cases e | some a => (have hx : a.block = x := by simpa [Value.ownBlock] using e); rw [← hx]; exact ⟨⟨a, rfl, rfl⟩, (hnA a rfl).2.1, (hnA a rfl).2.2.1, (hnA a rfl).2.2.2, (hnA a rfl).1⟩
    have hmb8 := q8.lt _ _ hm
    have hrb8 := q8.lt _ _ hR0
    have hib8 := ib_lt hi
    have hnA2 : ∀ a, A2 = some a → q0.top ≤ a.block ∧ a.block ≠ ib ∧ a.block ≠ mb ∧ a.block ≠ rb := fun a ea => by
      rcases hst.fresh _ (ho.A a ea) with h5 | h5
      · obtain ⟨_, g1, g2, g3, g4⟩ := hnoA _ h5; exact ⟨g4, g1, g2, g3⟩
      · have := hle.top; exact ⟨by omega, by omega, by omega, by omega⟩
    have hfr2 : ∀ c', A2 = some c' → (∃ c, A = some c ∧ c.block = c'.block) ∨ q8.top ≤ c'.block := fun c' e => by
      rcases hst.fresh _ (ho.A c' e) with h5 | h5
      · obtain ⟨⟨c, g1, g2⟩, _⟩ := hnoA _ h5; exact .inl ⟨c, g1, g2.symm⟩
      · exact .inr h5
    have hall : ∀ y' ∈ L ++ [((y, Ay, cy) : Wp)], VecOk w0 q9 ib mb rb A2 y' ∧ rightW y'.1 = true := fun y' hy' => by
      have h8 : VecOk w0 q8 ib mb rb A y' ∧ rightW y'.1 = true := by
        rcases List.mem_append.1 hy' with hy' | hy'
        · exact hL y' hy'
        · obtain rfl := List.mem_singleton.1 hy'; exact ⟨hv7, hy.1⟩
      have h9 : VecOk w0 q9 ib mb rb A y' := h8.1.chg hcs fun x _ e => .inr (.inr (.inr (hnoA x e).1))
      refine ⟨?_, h8.2⟩
      obtain ⟨g1, g2, g3⟩ := h9
      refine ⟨g1, g2, fun hd a ea => ?_⟩
      obtain ⟨k1, k2, k3, k4, k5⟩ := g3 hd a ea
      obtain ⟨j1, _⟩ := h8.1.2.2 hd a ea
      refine ⟨k1, k2, k3, k4, fun c' e => ?_⟩
      rcases hfr2 c' e with ⟨c, e1, e2⟩ | e1
      · rw [← e2]; exact k5 c e1
      · omega
    have hi := IS.chgL hi hcs (fun x k hk e => by obtain ⟨c9, h9⟩ := Own.lim hown e; rw [hk] at h9; injection h9 with h9; rw [h9]; simp only; omega)
    have hm := hcs.m _ _ hm (fun e => (hnoA _ e).2.2.1 rfl)
    have hR0 := hcs.m _ _ hR0 (fun e => (hnoA _ e).2.2.2.1 rfl)
    have hle := hle.chg hcs fun x e => (hnoA x e).2.2.2.2
    have hCE : L.length + 1 = (L ++ [((y, Ay, cy) : Wp)]).length := by simp
    have hown : Own q9 10 (.slice A2 (L ++ [((y, Ay, cy) : Wp)]).length ca2) (L ++ [((y, Ay, cy) : Wp)]).length ((L ++ [((y, Ay, cy) : Wp)]).flatMap wpL) := by rw [List.length_append, List.flatMap_append]; exact ho
    clear ho
    simp -dsimp -implicitDefEqProofs (disch := first | omega | assumption | (simp only [Option.isSome_some, Qt0]; done) | (simp only [UInt64.reduceToNat, UInt32.reduceToNat, UInt8.reduceToNat, List.length_cons, List.length_nil, List.length_append, Int.toNat_natCast] <;> omega) | fail) only [Nat.reduceLT, Nat.reduceLeDiff, Nat.reduceEqDiff, ↓reduceIte, Int.reduceLT, Int.reduceLE, Int.reduceToNat, Int.reduceEq, Int.reduceNe, Nat.reduceAdd, UInt8.reduceOfNat, UInt16.reduceOfNat, UInt32.reduceOfNat, UInt64.reduceOfNat, UInt64.reduceToNat, UInt32.reduceToNat, UInt16.reduceToNat, UInt8.reduceToNat, Int.reduceAdd, Int.reduceSub, Int.reduceMul, Nat.reduceMul, Qp0, Qp1, Ql0, Qe0, f2, f4, f5, f6, rd_M, rdM_some, hm, List.set_cons_zero, List.set_cons_succ, List.take_zero, List.drop_succ_cons, List.drop_zero, List.drop_nil, List.nil_append, List.append_nil, List.take_succ_cons, ite_true, PH.new_new, hCE]
    have hi := IS_put hi hm (show (7 : Nat) ≠ 3 by omega) ⟨[.int .i64 1, .slice A2 (L ++ [((y, Ay, cy) : Wp)]).length ca2, .slice none 0 0, .int .i64 0, .int .i64 0, .slice none 0 0, .int .i64 0], 7⟩
    have hle := hle.new mb ⟨[.int .i64 1, .slice A2 (L ++ [((y, Ay, cy) : Wp)]).length ca2, .slice none 0 0, .int .i64 0, .int .i64 0, .slice none 0 0, .int .i64 0], 7⟩ hmb0
    have hown := hown.put (b := mb) (fun e => by cases A2 with | none => cases e | some a => exact (hnA2 a rfl).2.2.1 (by simpa [Value.ownBlock] using e)) ⟨[.int .i64 1, .slice A2 (L ++ [((y, Ay, cy) : Wp)]).length ca2, .slice none 0 0, .int .i64 0, .int .i64 0, .slice none 0 0, .int .i64 0], 7⟩
    have hall := fun y' hy' => And.intro ((hall y' hy').1.chg (F := (· = mb)) ((Chg.refl (· = mb) q9).one ⟨[.int .i64 1, .slice A2 (L ++ [((y, Ay, cy) : Wp)]).length ca2, .slice none 0 0, .int .i64 0, .int .i64 0, .slice none 0 0, .int .i64 0], 7⟩) fun x _ e => .inr (.inl e)) (hall y' hy').2
    obtain ⟨r', rfl⟩ : ∃ r', r = r' + 1 := ⟨r - 1, by omega⟩
    exact ⟨r', _, by omega, PH.Le.refl _, r', L ++ [(y, Ay, cy)], A2, ca2, s3, rfl, by simp; omega, by trivial, by trivial, by trivial, by simp, by rw [PH.new_m, if_pos rfl], by rw [PH.new_m, if_neg (Ne.symm hne3)]; exact hR0, hi, hle, hown, hnA2, by rw [List.map_append]; exact hrunW.snoc e3.symm hy, hall⟩
  have e1 : decide (K = 1) = false := decide_eq_false k1
  have e2 : decide (K = 2) = false := decide_eq_false k2
  have e3 : decide (K = 3) = false := decide_eq_false k3
  have e4 : decide (K = 4) = false := decide_eq_false k4
  simp -dsimp -implicitDefEqProofs (disch := first | omega | assumption | (simp only [Option.isSome_some, Qt0]; done) | (simp only [UInt64.reduceToNat, UInt32.reduceToNat, UInt8.reduceToNat, List.length_cons, List.length_nil, List.length_append, Int.toNat_natCast] <;> omega) | fail) only [Nat.reduceLT, Nat.reduceLeDiff, Nat.reduceEqDiff, ↓reduceIte, Int.reduceLT, Int.reduceLE, Int.reduceToNat, Int.reduceEq, Int.reduceNe, Nat.reduceAdd, UInt8.reduceOfNat, UInt16.reduceOfNat, UInt32.reduceOfNat, UInt64.reduceOfNat, UInt64.reduceToNat, UInt32.reduceToNat, UInt16.reduceToNat, UInt8.reduceToNat, Int.reduceAdd, Int.reduceSub, Int.reduceMul, Nat.reduceMul, Qp0, Qp1, Ql0, Qe0, rd_M, rdM_some, hm, e1, e2, e3, e4]
  have hRM : MsR w0 q4 ⟨K, [], [], 0, 0, [], 0⟩ mpZ := ⟨rfl, (fun y hy => by cases hy), Rv.nil _ _ _, Rv.nil _ _ _, Rv.nil _ _ _, Nat.le_refl _, Nat.le_refl _, Nat.le_refl _⟩
  have hFM : Fits ⟨K, [], [], 0, 0, [], 0⟩ := ⟨by simp, by simp, by simp, fun x hx => by simp at hx, fun x hx => by simp at hx⟩
  have hrun : RunM bdD s.length s ⟨K, [], [], 0, 0, [], 0⟩ s1 := ⟨k, s1, ek, .inr (.inr (.inr (.inr ⟨by omega, by omega, by omega, by omega, hK.symm⟩)))⟩
  have haM : allOne [.int .i64 K, .slice none 0 0, .slice none 0 0, .int .i64 0, .int .i64 0, .slice none 0 0, .int .i64 0] := allOne_of _ rfl
  try simp -dsimp -implicitDefEqProofs (disch := first | omega | assumption | (simp only [Option.isSome_some, Qt0]; done) | (simp only [UInt64.reduceToNat, UInt32.reduceToNat, UInt8.reduceToNat, List.length_cons, List.length_nil, List.length_append, Int.toNat_natCast] <;> omega) | fail) only [Nat.reduceLT, Nat.reduceLeDiff, Nat.reduceEqDiff, ↓reduceIte, Int.reduceLT, Int.reduceLE, Int.reduceToNat, Int.reduceEq, Int.reduceNe, Nat.reduceAdd, UInt8.reduceOfNat, UInt16.reduceOfNat, UInt32.reduceOfNat, UInt64.reduceOfNat, UInt64.reduceToNat, UInt32.reduceToNat, UInt16.reduceToNat, UInt8.reduceToNat, Int.reduceAdd, Int.reduceSub, Int.reduceMul, Nat.reduceMul, Qp0, Qp1, Ql0, Qe0, rd_M, rdM_some, hm]
  refine (end_any w0 q4 ib s _ hi).mono ?_
  rintro z q8 ⟨he, hl8⟩
  have hm8 := hl8.m _ _ hm
  have hr8 := hl8.m _ _ hR0
  have hC8 : rdN w0 q8 ⟨mb, 0, none⟩ 7 = some [.int .i64 K, .slice none 0 0, .slice none 0 0, .int .i64 0, .int .i64 0, .slice none 0 0, .int .i64 0] := by unfold rdN; simp only [hm8]; rfl
  have hR8 := hRM.more hl8
  have hle8 := hle.trans hl8
  rcases EE_told he with ⟨hok, rfl⟩ | ⟨hn, be, pe, rfl, hbe⟩
  · have hRt := right_any w0 q8 _ _ hR8 hFM
    unfold msL at hRt
    simp only [List.length_nil] at hRt
    cases hr : rightM ⟨K, [], [], 0, 0, [], 0⟩ with
    | true =>
      rw [hr] at hRt
      simp -dsimp -implicitDefEqProofs (disch := first | omega | assumption | (simp only [Option.isSome_some, Qt0]; done) | (simp only [UInt64.reduceToNat, UInt32.reduceToNat, UInt8.reduceToNat, List.length_cons, List.length_nil, List.length_append, Int.toNat_natCast] <;> omega) | fail) only [Nat.reduceLT, Nat.reduceLeDiff, Nat.reduceEqDiff, ↓reduceIte, Int.reduceLT, Int.reduceLE, Int.reduceToNat, Int.reduceEq, Int.reduceNe, Nat.reduceAdd, UInt8.reduceOfNat, UInt16.reduceOfNat, UInt32.reduceOfNat, UInt64.reduceOfNat, UInt64.reduceToNat, UInt32.reduceToNat, UInt16.reduceToNat, UInt8.reduceToNat, Int.reduceAdd, Int.reduceSub, Int.reduceMul, Nat.reduceMul, Qp0, Qp1, Ql0, Qe0, hC8]
      refine hRt.mono ?_
      rintro z q9 ⟨rfl, hl9⟩
      have hr9 := hl9.m _ _ hr8
      have hm9 := hl9.m _ _ hm8
      have hC9 : rdN w0 q9 ⟨mb, 0, none⟩ 7 = some [.int .i64 K, .slice none 0 0, .slice none 0 0, .int .i64 0, .int .i64 0, .slice none 0 0, .int .i64 0] := by unfold rdN; simp only [hm9]; rfl
      have hR9 := hR8.more hl9
      simp -dsimp -implicitDefEqProofs (disch := first | omega | assumption | (simp only [Option.isSome_some, Qt0]; done) | (simp only [UInt64.reduceToNat, UInt32.reduceToNat, UInt8.reduceToNat, List.length_cons, List.length_nil, List.length_append, Int.toNat_natCast] <;> omega) | fail) only [Nat.reduceLT, Nat.reduceLeDiff, Nat.reduceEqDiff, ↓reduceIte, Int.reduceLT, Int.reduceLE, Int.reduceToNat, Int.reduceEq, Int.reduceNe, Nat.reduceAdd, UInt8.reduceOfNat, UInt16.reduceOfNat, UInt32.reduceOfNat, UInt64.reduceOfNat, UInt64.reduceToNat, UInt32.reduceToNat, UInt16.reduceToNat, UInt8.reduceToNat, Int.reduceAdd, Int.reduceSub, Int.reduceMul, Nat.reduceMul, Qp0, Qp1, Ql0, Qe0, hC9, hr9, rdN_new, List.set_cons_zero, List.set_cons_succ, List.take_zero, List.drop_succ_cons, List.drop_zero, List.drop_nil, List.nil_append, List.append_nil, List.take_succ_cons, ite_true, PH.new_new]
      refine ⟨_, PH.Le.refl _, .inl ⟨⟨K, [], [], 0, 0, [], 0⟩, mpZ, hr, by rw [hok] at hrun; exact hrun.back hr, by first | rfl | trivial, ?_, hFM⟩, hlq.trans ((hle8.trans hl9).new _ _ hrb0)⟩
      exact hR9.chg (F := (· = rb)) ((Chg.refl _ _).one _) (fun a e => by cases e) (fun a e => by cases e) (fun a e => by cases e) (fun y hy => by cases hy)
    | false =>
      rw [hr] at hRt
      simp -dsimp -implicitDefEqProofs (disch := first | omega | assumption | (simp only [Option.isSome_some, Qt0]; done) | (simp only [UInt64.reduceToNat, UInt32.reduceToNat, UInt8.reduceToNat, List.length_cons, List.length_nil, List.length_append, Int.toNat_natCast] <;> omega) | fail) only [Nat.reduceLT, Nat.reduceLeDiff, Nat.reduceEqDiff, ↓reduceIte, Int.reduceLT, Int.reduceLE, Int.reduceToNat, Int.reduceEq, Int.reduceNe, Nat.reduceAdd, UInt8.reduceOfNat, UInt16.reduceOfNat, UInt32.reduceOfNat, UInt64.reduceOfNat, UInt64.reduceToNat, UInt32.reduceToNat, UInt16.reduceToNat, UInt8.reduceToNat, Int.reduceAdd, Int.reduceSub, Int.reduceMul, Nat.reduceMul, Qp0, Qp1, Ql0, Qe0, hC8]
      refine hRt.mono ?_
      rintro z q9 ⟨rfl, hl9⟩
      have hr9 := hl9.m _ _ hr8
      simp -dsimp -implicitDefEqProofs (disch := first | omega | assumption | (simp only [Option.isSome_some, Qt0]; done) | (simp only [UInt64.reduceToNat, UInt32.reduceToNat, UInt8.reduceToNat, List.length_cons, List.length_nil, List.length_append, Int.toNat_natCast] <;> omega) | fail) only [Nat.reduceLT, Nat.reduceLeDiff, Nat.reduceEqDiff, ↓reduceIte, Int.reduceLT, Int.reduceLE, Int.reduceToNat, Int.reduceEq, Int.reduceNe, Nat.reduceAdd, UInt8.reduceOfNat, UInt16.reduceOfNat, UInt32.reduceOfNat, UInt64.reduceOfNat, UInt64.reduceToNat, UInt32.reduceToNat, UInt16.reduceToNat, UInt8.reduceToNat, Int.reduceAdd, Int.reduceSub, Int.reduceMul, Nat.reduceMul, Qp0, Qp1, Ql0, Qe0]
      refine (tbad_any 2 w0 _).mono ?_
      rintro z qa ⟨⟨be, rfl, hbm⟩, hla⟩
      have hra := hla.m _ _ hr9
      have hnb : be ≠ rb := fun e => by
        rw [e, hra] at hbm
        injection hbm with hbm
        injection hbm with _ hbm
        omega
      unfold errV
      simp -dsimp -implicitDefEqProofs (disch := first | omega | assumption | (simp only [Option.isSome_some, Qt0]; done) | (simp only [UInt64.reduceToNat, UInt32.reduceToNat, UInt8.reduceToNat, List.length_cons, List.length_nil, List.length_append, Int.toNat_natCast] <;> omega) | fail) only [Nat.reduceLT, Nat.reduceLeDiff, Nat.reduceEqDiff, ↓reduceIte, Int.reduceLT, Int.reduceLE, Int.reduceToNat, Int.reduceEq, Int.reduceNe, Nat.reduceAdd, UInt8.reduceOfNat, UInt16.reduceOfNat, UInt32.reduceOfNat, UInt64.reduceOfNat, UInt64.reduceToNat, UInt32.reduceToNat, UInt16.reduceToNat, UInt8.reduceToNat, Int.reduceAdd, Int.reduceSub, Int.reduceMul, Nat.reduceMul, Qp0, Qp1, Ql0, Qe0, hra, rdN_new, List.set_cons_zero, List.set_cons_succ, List.take_zero, List.drop_succ_cons, List.drop_zero, List.drop_nil, List.nil_append, List.append_nil, List.take_succ_cons, ite_true, PH.new_new]
      exact ⟨_, PH.Le.refl _, .inr ⟨no_m bdD_ok hrun (.inr hr), _, .wrap talkT 0 (.code 2), by first | rfl | trivial, ⟨be, _, rfl, by rw [PH.new_m, if_neg hnb]; exact hbm, rfl⟩, rfl⟩, hlq.trans (((hle8.trans hl9).trans hla).new _ _ hrb0)⟩
  · unfold errV
    simp -dsimp -implicitDefEqProofs (disch := first | omega | assumption | (simp only [Option.isSome_some, Qt0]; done) | (simp only [UInt64.reduceToNat, UInt32.reduceToNat, UInt8.reduceToNat, List.length_cons, List.length_nil, List.length_append, Int.toNat_natCast] <;> omega) | fail) only [Nat.reduceLT, Nat.reduceLeDiff, Nat.reduceEqDiff, ↓reduceIte, Int.reduceLT, Int.reduceLE, Int.reduceToNat, Int.reduceEq, Int.reduceNe, Nat.reduceAdd, UInt8.reduceOfNat, UInt16.reduceOfNat, UInt32.reduceOfNat, UInt64.reduceOfNat, UInt64.reduceToNat, UInt32.reduceToNat, UInt16.reduceToNat, UInt8.reduceToNat, Int.reduceAdd, Int.reduceSub, Int.reduceMul, Nat.reduceMul, Qp0, Qp1, Ql0, Qe0]
    refine (tbad_any 2 w0 _).mono ?_
    rintro z qa ⟨⟨be2, rfl, hbm⟩, hla⟩
    have hra := hla.m _ _ hr8
    have hnb : be2 ≠ rb := fun e => by
      rw [e, hra] at hbm
      injection hbm with hbm
      injection hbm with _ hbm
      omega
    unfold errV
    simp -dsimp -implicitDefEqProofs (disch := first | omega | assumption | (simp only [Option.isSome_some, Qt0]; done) | (simp only [UInt64.reduceToNat, UInt32.reduceToNat, UInt8.reduceToNat, List.length_cons, List.length_nil, List.length_append, Int.toNat_natCast] <;> omega) | fail) only [Nat.reduceLT, Nat.reduceLeDiff, Nat.reduceEqDiff, ↓reduceIte, Int.reduceLT, Int.reduceLE, Int.reduceToNat, Int.reduceEq, Int.reduceNe, Nat.reduceAdd, UInt8.reduceOfNat, UInt16.reduceOfNat, UInt32.reduceOfNat, UInt64.reduceOfNat, UInt64.reduceToNat, UInt32.reduceToNat, UInt16.reduceToNat, UInt8.reduceToNat, Int.reduceAdd, Int.reduceSub, Int.reduceMul, Nat.reduceMul, Qp0, Qp1, Ql0, Qe0, hra, rdN_new, List.set_cons_zero, List.set_cons_succ, List.take_zero, List.drop_succ_cons, List.drop_zero, List.drop_nil, List.nil_append, List.append_nil, List.take_succ_cons, ite_true, PH.new_new]
    exact ⟨_, PH.Le.refl _, .inr ⟨no_m bdD_ok hrun (.inl hn), _, .wrap talkT 0 (.code 2), by first | rfl | trivial, ⟨be2, _, rfl, by rw [PH.new_m, if_neg hnb]; exact hbm, rfl⟩, rfl⟩, hlq.trans ((hle8.trans hla).new _ _ hrb0)⟩
end Go.Proofs.Ytdhgmifgjaedbaa

