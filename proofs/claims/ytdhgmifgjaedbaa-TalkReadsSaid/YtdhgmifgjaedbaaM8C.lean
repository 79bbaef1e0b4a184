/- Parts Wrk, Er, Wrl, Base, Par, Pq, Wrm, Wrn, Wrq, Up, Map, Ta1, joined. No condition. -/
import Derived.Test.YtdhgmifgjaedbaaM7C
import Derived.Test.YtdhgmifgjaedbaaM4C
import Derived.LaidEql
import Derived.Stop.Asserts
import Derived.Laws.Externs
import Derived.Test.YtdhgmifgjaedbaaM6C
import Derived.Test.YtdhgmifgjaedbaaRows
import Derived.WalkKit
import Derived.ProofKit
import Derived.OpenShut
import Derived.SizedLaws
import Derived.OpenVars
import Derived.Lib.Hide
import Derived.Deep.Fields
import Derived.Deep.Slices
import Derived.Test.YtdhgmifgjaedbaaM3C
import Derived.Test.YtdhgmifgjaedbaaM5C
import Derived.Test.YtdhgmifgjaedbaaM2C
import Derived.Maps.Own
import Derived.Maps.OwnOps
import Derived.Maps.OwnSet
/- Walks: ReadWrite. No condition. -/
namespace Go.Proofs.Ytdhgmifgjaedbaa
set_option linter.unusedVariables false
set_option linter.unusedSimpArgs false
open Go.RowKit Px Wr
/-- .. and the vector lies in what is new. -/
def REWF (w0 : World) (h0 h : PH) (s : List UInt8) (v : Value) : Prop :=
  (∃ c A cap, IsW s c ∧ v = .tuple #[.agg (wtL c A cap).toArray, .bool true] ∧ c.d.length ≤ cap ∧ Rv w0 h A (ints c.d) ∧ ∀ a, A = some a → h0.top ≤ a.block) ∨ ((∀ c, ¬ IsW s c) ∧ v = .tuple #[.agg (wtL wtZ none 0).toArray, .bool false])
set_option maxRecDepth 20000 in
set_option maxHeartbeats 4000000 in
theorem readWF_any (s : List UInt8) (hs : s.length ≤ 1000000000) (w0 : World) (h : PH) : PCalls Try.prog w0 50 [str s] h fun r h' => REWF w0 h h' s r ∧ PH.Le h h' := by
  refine PCalls_body Try.func50 (by kernel_rfl) rfl _ Try.ntmps50 (by kernel_rfl) (by kernel_rfl) _ Try.results50 ?_
  simp -dsimp -implicitDefEqProofs (disch := first | omega | assumption | (simp only [Option.isSome_some, Qt0]; done) | (simp only [UInt64.reduceToNat, UInt32.reduceToNat, UInt8.reduceToNat, List.length_cons, List.length_nil, List.length_append, Int.toNat_natCast] <;> omega) | fail) only [Nat.reduceLT, Nat.reduceLeDiff, Nat.reduceEqDiff, ↓reduceIte, Int.reduceLT, Int.reduceLE, Int.reduceToNat, Int.reduceEq, Int.reduceNe, Nat.reduceAdd, UInt8.reduceOfNat, UInt16.reduceOfNat, UInt32.reduceOfNat, UInt64.reduceOfNat, UInt64.reduceToNat, UInt32.reduceToNat, UInt16.reduceToNat, UInt8.reduceToNat, Int.reduceAdd, Int.reduceSub, Int.reduceMul, Nat.reduceMul, Qp0, Qp1, Ql0, Qe0]
  refine fun rb hrb => ?_
  have hle := (PH.Le.refl h).new rb ⟨[.int .i64 0, .int .i64 0, .int .i64 0, .int .i64 0, .slice none 0 0, .string ⟨#[]⟩, .string ⟨#[]⟩, .string ⟨#[]⟩, .bool false, .int .i64 0], 10⟩ hrb
  have hm : (h.new rb ⟨[.int .i64 0, .int .i64 0, .int .i64 0, .int .i64 0, .slice none 0 0, .string ⟨#[]⟩, .string ⟨#[]⟩, .string ⟨#[]⟩, .bool false, .int .i64 0], 10⟩).m rb = some ⟨[.int .i64 0, .int .i64 0, .int .i64 0, .int .i64 0, .slice none 0 0, .string ⟨#[]⟩, .string ⟨#[]⟩, .string ⟨#[]⟩, .bool false, .int .i64 0], 10⟩ := by rw [PH.new_m, if_pos rfl]
  simp -dsimp -implicitDefEqProofs (disch := first | omega | assumption | (simp only [Option.isSome_some, Qt0]; done) | (simp only [UInt64.reduceToNat, UInt32.reduceToNat, UInt8.reduceToNat, List.length_cons, List.length_nil, List.length_append, Int.toNat_natCast] <;> omega) | fail) only [Nat.reduceLT, Nat.reduceLeDiff, Nat.reduceEqDiff, ↓reduceIte, Int.reduceLT, Int.reduceLE, Int.reduceToNat, Int.reduceEq, Int.reduceNe, Nat.reduceAdd, UInt8.reduceOfNat, UInt16.reduceOfNat, UInt32.reduceOfNat, UInt64.reduceOfNat, UInt64.reduceToNat, UInt32.reduceToNat, UInt16.reduceToNat, UInt8.reduceToNat, Int.reduceAdd, Int.reduceSub, Int.reduceMul, Nat.reduceMul, Qp0, Qp1, Ql0, Qe0]
  generalize h.new rb ⟨[.int .i64 0, .int .i64 0, .int .i64 0, .int .i64 0, .slice none 0 0, .string ⟨#[]⟩, .string ⟨#[]⟩, .string ⟨#[]⟩, .bool false, .int .i64 0], 10⟩ = h1 at *
  refine (rread_any w0 h1 s).mono ?_
  rintro v q2 ⟨ib, rfl, hib, hl2, hi⟩
  have hibl := rib_lt hi
  have hne : rb ≠ ib := by have := h1.lt _ _ hm; omega
  have hib0 : h.top ≤ ib := Nat.le_trans hle.top hib
  have hm := hl2.m _ _ hm
  have hle2 := hle.trans hl2
  have hcc := Chg.refl (· = ib) q2
  simp -dsimp -implicitDefEqProofs (disch := first | omega | assumption | (simp only [Option.isSome_some, Qt0]; done) | (simp only [UInt64.reduceToNat, UInt32.reduceToNat, UInt8.reduceToNat, List.length_cons, List.length_nil, List.length_append, Int.toNat_natCast] <;> omega) | fail) only [Nat.reduceLT, Nat.reduceLeDiff, Nat.reduceEqDiff, ↓reduceIte, Int.reduceLT, Int.reduceLE, Int.reduceToNat, Int.reduceEq, Int.reduceNe, Nat.reduceAdd, UInt8.reduceOfNat, UInt16.reduceOfNat, UInt32.reduceOfNat, UInt64.reduceOfNat, UInt64.reduceToNat, UInt32.reduceToNat, UInt16.reduceToNat, UInt8.reduceToNat, Int.reduceAdd, Int.reduceSub, Int.reduceMul, Nat.reduceMul, Qp0, Qp1, Ql0, Qe0]
  refine fun wb hwb => ?_
  have hlw := (PH.Le.refl q2).new wb ⟨[.int .i64 0, .int .i64 0, .int .i64 0, .int .i64 0, .slice none 0 0, .string ⟨#[]⟩, .string ⟨#[]⟩, .string ⟨#[]⟩, .bool false, .int .i64 0], 10⟩ hwb
  have hw : (q2.new wb ⟨[.int .i64 0, .int .i64 0, .int .i64 0, .int .i64 0, .slice none 0 0, .string ⟨#[]⟩, .string ⟨#[]⟩, .string ⟨#[]⟩, .bool false, .int .i64 0], 10⟩).m wb = some ⟨[.int .i64 0, .int .i64 0, .int .i64 0, .int .i64 0, .slice none 0 0, .string ⟨#[]⟩, .string ⟨#[]⟩, .string ⟨#[]⟩, .bool false, .int .i64 0], 10⟩ := by rw [PH.new_m, if_pos rfl]
  have ha := allOne_of [.int .i64 0, .int .i64 0, .int .i64 0, .int .i64 0, .slice none 0 0, .string ⟨#[]⟩, .string ⟨#[]⟩, .string ⟨#[]⟩, .bool false, .int .i64 0] rfl
  have hrw : rb ≠ wb := by have := q2.lt _ _ hm; omega
  have hnw : wb ≠ ib := by omega
  have hwb0 : h.top ≤ wb := Nat.le_trans (Nat.le_trans hle2.top hcc.top) hwb
  have hcc := (hcc.mono (G := fun x => x = ib ∨ x = rb ∨ x = wb) fun x _ e => .inl e).trans (.le hlw)
  have hm := hlw.m _ _ hm
  have hi := hi.more hlw
  have hibl := Nat.lt_of_lt_of_le hibl hlw.top
  simp -dsimp -implicitDefEqProofs (disch := first | omega | assumption | (simp only [Option.isSome_some, Qt0]; done) | (simp only [UInt64.reduceToNat, UInt32.reduceToNat, UInt8.reduceToNat, List.length_cons, List.length_nil, List.length_append, Int.toNat_natCast] <;> omega) | fail) only [Nat.reduceLT, Nat.reduceLeDiff, Nat.reduceEqDiff, ↓reduceIte, Int.reduceLT, Int.reduceLE, Int.reduceToNat, Int.reduceEq, Int.reduceNe, Nat.reduceAdd, UInt8.reduceOfNat, UInt16.reduceOfNat, UInt32.reduceOfNat, UInt64.reduceOfNat, UInt64.reduceToNat, UInt32.reduceToNat, UInt16.reduceToNat, UInt8.reduceToNat, Int.reduceAdd, Int.reduceSub, Int.reduceMul, Nat.reduceMul, Qp0, Qp1, Ql0, Qe0, List.set_cons_zero, List.set_cons_succ, List.take_zero, List.drop_succ_cons, List.drop_zero, List.drop_nil, List.nil_append, List.append_nil, List.take_succ_cons, ite_true, PH.new_new]
  generalize q2.new wb ⟨[.int .i64 0, .int .i64 0, .int .i64 0, .int .i64 0, .slice none 0 0, .string ⟨#[]⟩, .string ⟨#[]⟩, .string ⟨#[]⟩, .bool false, .int .i64 0], 10⟩ = q3 at *
  refine (rnum_any w0 _ ib s hs 4611686018427387903 _ hi).mono ?_
  rintro v q4 ⟨rfl, hi, hc⟩
  obtain ⟨⟨x1, s1⟩, e1⟩ : ∃ p, p = numS 4611686018427387903 s.length (.ok s) := ⟨_, rfl⟩
  rw [← e1] at hi
  rw [← e1]
  simp only at hi
  have hm := hc.m _ _ hm hne
  have hw := hc.m _ _ hw hnw
  have hcc := hcc.trans (hc.mono (G := fun x => x = ib ∨ x = rb ∨ x = wb) fun x _ e => .inl e)
  have hibl := Nat.lt_of_lt_of_le hibl hc.top
  simp -dsimp -implicitDefEqProofs (disch := first | omega | assumption | (simp only [Option.isSome_some, Qt0]; done) | (simp only [UInt64.reduceToNat, UInt32.reduceToNat, UInt8.reduceToNat, List.length_cons, List.length_nil, List.length_append, Int.toNat_natCast] <;> omega) | fail) only [Nat.reduceLT, Nat.reduceLeDiff, Nat.reduceEqDiff, ↓reduceIte, Int.reduceLT, Int.reduceLE, Int.reduceToNat, Int.reduceEq, Int.reduceNe, Nat.reduceAdd, UInt8.reduceOfNat, UInt16.reduceOfNat, UInt32.reduceOfNat, UInt64.reduceOfNat, UInt64.reduceToNat, UInt32.reduceToNat, UInt16.reduceToNat, UInt8.reduceToNat, Int.reduceAdd, Int.reduceSub, Int.reduceMul, Nat.reduceMul, Qp0, Qp1, Ql0, Qe0, rd_M, rdM_some, hm, hw, List.set_cons_zero, List.set_cons_succ, List.take_zero, List.drop_succ_cons, List.drop_zero, List.drop_nil, List.nil_append, List.append_nil, List.take_succ_cons, ite_true, PH.new_new]
  have hcc := hcc.put (F := fun x => x = ib ∨ x = rb ∨ x = wb) (b := wb) (.inr (.inr rfl)) ⟨[.int .i64 x1, .int .i64 0, .int .i64 0, .int .i64 0, .slice none 0 0, .string ⟨#[]⟩, .string ⟨#[]⟩, .string ⟨#[]⟩, .bool false, .int .i64 0], 10⟩
  have hi := hi.chg (F := (· = wb)) ((Chg.refl (· = wb) q4).one ⟨[.int .i64 x1, .int .i64 0, .int .i64 0, .int .i64 0, .slice none 0 0, .string ⟨#[]⟩, .string ⟨#[]⟩, .string ⟨#[]⟩, .bool false, .int .i64 0], 10⟩) (fun e => hnw e.symm)
  have hm : (q4.new wb ⟨[.int .i64 x1, .int .i64 0, .int .i64 0, .int .i64 0, .slice none 0 0, .string ⟨#[]⟩, .string ⟨#[]⟩, .string ⟨#[]⟩, .bool false, .int .i64 0], 10⟩).m rb = some ⟨[.int .i64 0, .int .i64 0, .int .i64 0, .int .i64 0, .slice none 0 0, .string ⟨#[]⟩, .string ⟨#[]⟩, .string ⟨#[]⟩, .bool false, .int .i64 0], 10⟩ := by rw [PH.new_m, if_neg hrw]; exact hm
  have hw : (q4.new wb ⟨[.int .i64 x1, .int .i64 0, .int .i64 0, .int .i64 0, .slice none 0 0, .string ⟨#[]⟩, .string ⟨#[]⟩, .string ⟨#[]⟩, .bool false, .int .i64 0], 10⟩).m wb = some ⟨[.int .i64 x1, .int .i64 0, .int .i64 0, .int .i64 0, .slice none 0 0, .string ⟨#[]⟩, .string ⟨#[]⟩, .string ⟨#[]⟩, .bool false, .int .i64 0], 10⟩ := by rw [PH.new_m, if_pos rfl]
  have hibl : ib < (q4.new wb ⟨[.int .i64 x1, .int .i64 0, .int .i64 0, .int .i64 0, .slice none 0 0, .string ⟨#[]⟩, .string ⟨#[]⟩, .string ⟨#[]⟩, .bool false, .int .i64 0], 10⟩).top := by simp only [PH.new_top]; omega
  generalize q4.new wb ⟨[.int .i64 x1, .int .i64 0, .int .i64 0, .int .i64 0, .slice none 0 0, .string ⟨#[]⟩, .string ⟨#[]⟩, .string ⟨#[]⟩, .bool false, .int .i64 0], 10⟩ = q5 at *
  refine (rnum_any w0 _ ib s hs 4611686018427387903 _ hi).mono ?_
  rintro v q6 ⟨rfl, hi, hc⟩
  obtain ⟨⟨x2, s2⟩, e2⟩ : ∃ p, p = numS 4611686018427387903 s.length s1 := ⟨_, rfl⟩
  rw [← e2] at hi
  rw [← e2]
  simp only at hi
  have hm := hc.m _ _ hm hne
  have hw := hc.m _ _ hw hnw
  have hcc := hcc.trans (hc.mono (G := fun x => x = ib ∨ x = rb ∨ x = wb) fun x _ e => .inl e)
  have hibl := Nat.lt_of_lt_of_le hibl hc.top
  simp -dsimp -implicitDefEqProofs (disch := first | omega | assumption | (simp only [Option.isSome_some, Qt0]; done) | (simp only [UInt64.reduceToNat, UInt32.reduceToNat, UInt8.reduceToNat, List.length_cons, List.length_nil, List.length_append, Int.toNat_natCast] <;> omega) | fail) only [Nat.reduceLT, Nat.reduceLeDiff, Nat.reduceEqDiff, ↓reduceIte, Int.reduceLT, Int.reduceLE, Int.reduceToNat, Int.reduceEq, Int.reduceNe, Nat.reduceAdd, UInt8.reduceOfNat, UInt16.reduceOfNat, UInt32.reduceOfNat, UInt64.reduceOfNat, UInt64.reduceToNat, UInt32.reduceToNat, UInt16.reduceToNat, UInt8.reduceToNat, Int.reduceAdd, Int.reduceSub, Int.reduceMul, Nat.reduceMul, Qp0, Qp1, Ql0, Qe0, rd_M, rdM_some, hm, hw, List.set_cons_zero, List.set_cons_succ, List.take_zero, List.drop_succ_cons, List.drop_zero, List.drop_nil, List.nil_append, List.append_nil, List.take_succ_cons, ite_true, PH.new_new]
  have hcc := hcc.put (F := fun x => x = ib ∨ x = rb ∨ x = wb) (b := wb) (.inr (.inr rfl)) ⟨[.int .i64 x1, .int .i64 x2, .int .i64 0, .int .i64 0, .slice none 0 0, .string ⟨#[]⟩, .string ⟨#[]⟩, .string ⟨#[]⟩, .bool false, .int .i64 0], 10⟩
  have hi := hi.chg (F := (· = wb)) ((Chg.refl (· = wb) q6).one ⟨[.int .i64 x1, .int .i64 x2, .int .i64 0, .int .i64 0, .slice none 0 0, .string ⟨#[]⟩, .string ⟨#[]⟩, .string ⟨#[]⟩, .bool false, .int .i64 0], 10⟩) (fun e => hnw e.symm)
  have hm : (q6.new wb ⟨[.int .i64 x1, .int .i64 x2, .int .i64 0, .int .i64 0, .slice none 0 0, .string ⟨#[]⟩, .string ⟨#[]⟩, .string ⟨#[]⟩, .bool false, .int .i64 0], 10⟩).m rb = some ⟨[.int .i64 0, .int .i64 0, .int .i64 0, .int .i64 0, .slice none 0 0, .string ⟨#[]⟩, .string ⟨#[]⟩, .string ⟨#[]⟩, .bool false, .int .i64 0], 10⟩ := by rw [PH.new_m, if_neg hrw]; exact hm
  have hw : (q6.new wb ⟨[.int .i64 x1, .int .i64 x2, .int .i64 0, .int .i64 0, .slice none 0 0, .string ⟨#[]⟩, .string ⟨#[]⟩, .string ⟨#[]⟩, .bool false, .int .i64 0], 10⟩).m wb = some ⟨[.int .i64 x1, .int .i64 x2, .int .i64 0, .int .i64 0, .slice none 0 0, .string ⟨#[]⟩, .string ⟨#[]⟩, .string ⟨#[]⟩, .bool false, .int .i64 0], 10⟩ := by rw [PH.new_m, if_pos rfl]
  have hibl : ib < (q6.new wb ⟨[.int .i64 x1, .int .i64 x2, .int .i64 0, .int .i64 0, .slice none 0 0, .string ⟨#[]⟩, .string ⟨#[]⟩, .string ⟨#[]⟩, .bool false, .int .i64 0], 10⟩).top := by simp only [PH.new_top]; omega
  generalize q6.new wb ⟨[.int .i64 x1, .int .i64 x2, .int .i64 0, .int .i64 0, .slice none 0 0, .string ⟨#[]⟩, .string ⟨#[]⟩, .string ⟨#[]⟩, .bool false, .int .i64 0], 10⟩ = q7 at *
  refine (rnum_any w0 _ ib s hs 4611686018427387903 _ hi).mono ?_
  rintro v q8 ⟨rfl, hi, hc⟩
  obtain ⟨⟨x3, s3⟩, e3⟩ : ∃ p, p = numS 4611686018427387903 s.length s2 := ⟨_, rfl⟩
  rw [← e3] at hi
  rw [← e3]
  simp only at hi
  have hm := hc.m _ _ hm hne
  have hw := hc.m _ _ hw hnw
  have hcc := hcc.trans (hc.mono (G := fun x => x = ib ∨ x = rb ∨ x = wb) fun x _ e => .inl e)
  have hibl := Nat.lt_of_lt_of_le hibl hc.top
  simp -dsimp -implicitDefEqProofs (disch := first | omega | assumption | (simp only [Option.isSome_some, Qt0]; done) | (simp only [UInt64.reduceToNat, UInt32.reduceToNat, UInt8.reduceToNat, List.length_cons, List.length_nil, List.length_append, Int.toNat_natCast] <;> omega) | fail) only [Nat.reduceLT, Nat.reduceLeDiff, Nat.reduceEqDiff, ↓reduceIte, Int.reduceLT, Int.reduceLE, Int.reduceToNat, Int.reduceEq, Int.reduceNe, Nat.reduceAdd, UInt8.reduceOfNat, UInt16.reduceOfNat, UInt32.reduceOfNat, UInt64.reduceOfNat, UInt64.reduceToNat, UInt32.reduceToNat, UInt16.reduceToNat, UInt8.reduceToNat, Int.reduceAdd, Int.reduceSub, Int.reduceMul, Nat.reduceMul, Qp0, Qp1, Ql0, Qe0, rd_M, rdM_some, hm, hw, List.set_cons_zero, List.set_cons_succ, List.take_zero, List.drop_succ_cons, List.drop_zero, List.drop_nil, List.nil_append, List.append_nil, List.take_succ_cons, ite_true, PH.new_new]
  have hcc := hcc.put (F := fun x => x = ib ∨ x = rb ∨ x = wb) (b := wb) (.inr (.inr rfl)) ⟨[.int .i64 x1, .int .i64 x2, .int .i64 x3, .int .i64 x1, .slice none 0 0, .string ⟨#[]⟩, .string ⟨#[]⟩, .string ⟨#[]⟩, .bool false, .int .i64 0], 10⟩
  have hi := hi.chg (F := (· = wb)) ((Chg.refl (· = wb) q8).one ⟨[.int .i64 x1, .int .i64 x2, .int .i64 x3, .int .i64 x1, .slice none 0 0, .string ⟨#[]⟩, .string ⟨#[]⟩, .string ⟨#[]⟩, .bool false, .int .i64 0], 10⟩) (fun e => hnw e.symm)
  have hm : (q8.new wb ⟨[.int .i64 x1, .int .i64 x2, .int .i64 x3, .int .i64 x1, .slice none 0 0, .string ⟨#[]⟩, .string ⟨#[]⟩, .string ⟨#[]⟩, .bool false, .int .i64 0], 10⟩).m rb = some ⟨[.int .i64 0, .int .i64 0, .int .i64 0, .int .i64 0, .slice none 0 0, .string ⟨#[]⟩, .string ⟨#[]⟩, .string ⟨#[]⟩, .bool false, .int .i64 0], 10⟩ := by rw [PH.new_m, if_neg hrw]; exact hm
  have hw : (q8.new wb ⟨[.int .i64 x1, .int .i64 x2, .int .i64 x3, .int .i64 x1, .slice none 0 0, .string ⟨#[]⟩, .string ⟨#[]⟩, .string ⟨#[]⟩, .bool false, .int .i64 0], 10⟩).m wb = some ⟨[.int .i64 x1, .int .i64 x2, .int .i64 x3, .int .i64 x1, .slice none 0 0, .string ⟨#[]⟩, .string ⟨#[]⟩, .string ⟨#[]⟩, .bool false, .int .i64 0], 10⟩ := by rw [PH.new_m, if_pos rfl]
  have hibl : ib < (q8.new wb ⟨[.int .i64 x1, .int .i64 x2, .int .i64 x3, .int .i64 x1, .slice none 0 0, .string ⟨#[]⟩, .string ⟨#[]⟩, .string ⟨#[]⟩, .bool false, .int .i64 0], 10⟩).top := by simp only [PH.new_top]; omega
  generalize q8.new wb ⟨[.int .i64 x1, .int .i64 x2, .int .i64 x3, .int .i64 x1, .slice none 0 0, .string ⟨#[]⟩, .string ⟨#[]⟩, .string ⟨#[]⟩, .bool false, .int .i64 0], 10⟩ = q9 at *
  refine (rvec_any w0 _ ib s hs _ hi).mono ?_
  rintro v q10 ⟨A, cap, rfl, how, hi⟩
  obtain ⟨⟨x4, s4⟩, e4⟩ : ∃ p, p = vecS s.length s3 := ⟨_, rfl⟩
  rw [← e4] at hi how
  rw [← e4]
  simp only at hi how
  have hc := how.chg
  obtain ⟨_, _, hA, hcap⟩ := how.own.len
  injection hA with hA1 hA2 hA3
  subst hA1; subst hA3
  have hnA : ∀ a, A = some a → a.block ≠ ib ∧ a.block ≠ rb ∧ a.block ≠ wb ∧ h.top ≤ a.block := fun a ea => by
    have hrb0 : h.top ≤ rb := hrb
    have h5 := how.new _ (how.own.A a ea)
    have h6 := hibl
    have h7 := q9.lt _ _ hm
    have h8 := q9.lt _ _ hw
    refine ⟨?_, ?_, ?_, ?_⟩ <;> omega
  have hrv : Rv w0 q10 A (ints x4) := how.rv
  have hm := hc.m _ _ hm hne
  have hw := hc.m _ _ hw hnw
  have hcc := hcc.trans (hc.mono (G := fun x => x = ib ∨ x = rb ∨ x = wb) fun x _ e => .inl e)
  have hibl := Nat.lt_of_lt_of_le hibl hc.top
  simp -dsimp -implicitDefEqProofs (disch := first | omega | assumption | (simp only [Option.isSome_some, Qt0]; done) | (simp only [UInt64.reduceToNat, UInt32.reduceToNat, UInt8.reduceToNat, List.length_cons, List.length_nil, List.length_append, Int.toNat_natCast] <;> omega) | fail) only [Nat.reduceLT, Nat.reduceLeDiff, Nat.reduceEqDiff, ↓reduceIte, Int.reduceLT, Int.reduceLE, Int.reduceToNat, Int.reduceEq, Int.reduceNe, Nat.reduceAdd, UInt8.reduceOfNat, UInt16.reduceOfNat, UInt32.reduceOfNat, UInt64.reduceOfNat, UInt64.reduceToNat, UInt32.reduceToNat, UInt16.reduceToNat, UInt8.reduceToNat, Int.reduceAdd, Int.reduceSub, Int.reduceMul, Nat.reduceMul, Qp0, Qp1, Ql0, Qe0, rd_M, rdM_some, hm, hw, List.set_cons_zero, List.set_cons_succ, List.take_zero, List.drop_succ_cons, List.drop_zero, List.drop_nil, List.nil_append, List.append_nil, List.take_succ_cons, ite_true, PH.new_new]
  have hcc := hcc.put (F := fun x => x = ib ∨ x = rb ∨ x = wb) (b := wb) (.inr (.inr rfl)) ⟨[.int .i64 x1, .int .i64 x2, .int .i64 x3, .int .i64 x1, .slice A x4.length cap, .string ⟨#[]⟩, .string ⟨#[]⟩, .string ⟨#[]⟩, .bool false, .int .i64 0], 10⟩
  have hi := hi.chg (F := (· = wb)) ((Chg.refl (· = wb) q10).one ⟨[.int .i64 x1, .int .i64 x2, .int .i64 x3, .int .i64 x1, .slice A x4.length cap, .string ⟨#[]⟩, .string ⟨#[]⟩, .string ⟨#[]⟩, .bool false, .int .i64 0], 10⟩) (fun e => hnw e.symm)
  have hrv := hrv.chg (F := (· = wb)) ((Chg.refl (· = wb) q10).one ⟨[.int .i64 x1, .int .i64 x2, .int .i64 x3, .int .i64 x1, .slice A x4.length cap, .string ⟨#[]⟩, .string ⟨#[]⟩, .string ⟨#[]⟩, .bool false, .int .i64 0], 10⟩) (fun a ea e => (hnA a ea).2.2.1 e)
  have hm : (q10.new wb ⟨[.int .i64 x1, .int .i64 x2, .int .i64 x3, .int .i64 x1, .slice A x4.length cap, .string ⟨#[]⟩, .string ⟨#[]⟩, .string ⟨#[]⟩, .bool false, .int .i64 0], 10⟩).m rb = some ⟨[.int .i64 0, .int .i64 0, .int .i64 0, .int .i64 0, .slice none 0 0, .string ⟨#[]⟩, .string ⟨#[]⟩, .string ⟨#[]⟩, .bool false, .int .i64 0], 10⟩ := by rw [PH.new_m, if_neg hrw]; exact hm
  have hw : (q10.new wb ⟨[.int .i64 x1, .int .i64 x2, .int .i64 x3, .int .i64 x1, .slice A x4.length cap, .string ⟨#[]⟩, .string ⟨#[]⟩, .string ⟨#[]⟩, .bool false, .int .i64 0], 10⟩).m wb = some ⟨[.int .i64 x1, .int .i64 x2, .int .i64 x3, .int .i64 x1, .slice A x4.length cap, .string ⟨#[]⟩, .string ⟨#[]⟩, .string ⟨#[]⟩, .bool false, .int .i64 0], 10⟩ := by rw [PH.new_m, if_pos rfl]
  have hibl : ib < (q10.new wb ⟨[.int .i64 x1, .int .i64 x2, .int .i64 x3, .int .i64 x1, .slice A x4.length cap, .string ⟨#[]⟩, .string ⟨#[]⟩, .string ⟨#[]⟩, .bool false, .int .i64 0], 10⟩).top := by simp only [PH.new_top]; omega
  generalize q10.new wb ⟨[.int .i64 x1, .int .i64 x2, .int .i64 x3, .int .i64 x1, .slice A x4.length cap, .string ⟨#[]⟩, .string ⟨#[]⟩, .string ⟨#[]⟩, .bool false, .int .i64 0], 10⟩ = q11 at *
  refine (rtext_any w0 _ ib s hs 4611686018427387903 _ hi).mono ?_
  rintro v q12 ⟨rfl, hi, hc⟩
  obtain ⟨⟨x5, s5⟩, e5⟩ : ∃ p, p = txtS 4611686018427387903 s.length s4 := ⟨_, rfl⟩
  rw [← e5] at hi
  rw [← e5]
  simp only at hi
  have hrv := hrv.chg hc (fun a ea e => (hnA a ea).1 e)
  have hm := hc.m _ _ hm hne
  have hw := hc.m _ _ hw hnw
  have hcc := hcc.trans (hc.mono (G := fun x => x = ib ∨ x = rb ∨ x = wb) fun x _ e => .inl e)
  have hibl := Nat.lt_of_lt_of_le hibl hc.top
  simp -dsimp -implicitDefEqProofs (disch := first | omega | assumption | (simp only [Option.isSome_some, Qt0]; done) | (simp only [UInt64.reduceToNat, UInt32.reduceToNat, UInt8.reduceToNat, List.length_cons, List.length_nil, List.length_append, Int.toNat_natCast] <;> omega) | fail) only [Nat.reduceLT, Nat.reduceLeDiff, Nat.reduceEqDiff, ↓reduceIte, Int.reduceLT, Int.reduceLE, Int.reduceToNat, Int.reduceEq, Int.reduceNe, Nat.reduceAdd, UInt8.reduceOfNat, UInt16.reduceOfNat, UInt32.reduceOfNat, UInt64.reduceOfNat, UInt64.reduceToNat, UInt32.reduceToNat, UInt16.reduceToNat, UInt8.reduceToNat, Int.reduceAdd, Int.reduceSub, Int.reduceMul, Nat.reduceMul, Qp0, Qp1, Ql0, Qe0, rd_M, rdM_some, hm, hw, List.set_cons_zero, List.set_cons_succ, List.take_zero, List.drop_succ_cons, List.drop_zero, List.drop_nil, List.nil_append, List.append_nil, List.take_succ_cons, ite_true, PH.new_new]
  have hcc := hcc.put (F := fun x => x = ib ∨ x = rb ∨ x = wb) (b := wb) (.inr (.inr rfl)) ⟨[.int .i64 x1, .int .i64 x2, .int .i64 x3, .int .i64 x1, .slice A x4.length cap, str x5, .string ⟨#[]⟩, .string ⟨#[]⟩, .bool false, .int .i64 0], 10⟩
  have hi := hi.chg (F := (· = wb)) ((Chg.refl (· = wb) q12).one ⟨[.int .i64 x1, .int .i64 x2, .int .i64 x3, .int .i64 x1, .slice A x4.length cap, str x5, .string ⟨#[]⟩, .string ⟨#[]⟩, .bool false, .int .i64 0], 10⟩) (fun e => hnw e.symm)
  have hrv := hrv.chg (F := (· = wb)) ((Chg.refl (· = wb) q12).one ⟨[.int .i64 x1, .int .i64 x2, .int .i64 x3, .int .i64 x1, .slice A x4.length cap, str x5, .string ⟨#[]⟩, .string ⟨#[]⟩, .bool false, .int .i64 0], 10⟩) (fun a ea e => (hnA a ea).2.2.1 e)
  have hm : (q12.new wb ⟨[.int .i64 x1, .int .i64 x2, .int .i64 x3, .int .i64 x1, .slice A x4.length cap, str x5, .string ⟨#[]⟩, .string ⟨#[]⟩, .bool false, .int .i64 0], 10⟩).m rb = some ⟨[.int .i64 0, .int .i64 0, .int .i64 0, .int .i64 0, .slice none 0 0, .string ⟨#[]⟩, .string ⟨#[]⟩, .string ⟨#[]⟩, .bool false, .int .i64 0], 10⟩ := by rw [PH.new_m, if_neg hrw]; exact hm
  have hw : (q12.new wb ⟨[.int .i64 x1, .int .i64 x2, .int .i64 x3, .int .i64 x1, .slice A x4.length cap, str x5, .string ⟨#[]⟩, .string ⟨#[]⟩, .bool false, .int .i64 0], 10⟩).m wb = some ⟨[.int .i64 x1, .int .i64 x2, .int .i64 x3, .int .i64 x1, .slice A x4.length cap, str x5, .string ⟨#[]⟩, .string ⟨#[]⟩, .bool false, .int .i64 0], 10⟩ := by rw [PH.new_m, if_pos rfl]
  have hibl : ib < (q12.new wb ⟨[.int .i64 x1, .int .i64 x2, .int .i64 x3, .int .i64 x1, .slice A x4.length cap, str x5, .string ⟨#[]⟩, .string ⟨#[]⟩, .bool false, .int .i64 0], 10⟩).top := by simp only [PH.new_top]; omega
  generalize q12.new wb ⟨[.int .i64 x1, .int .i64 x2, .int .i64 x3, .int .i64 x1, .slice A x4.length cap, str x5, .string ⟨#[]⟩, .string ⟨#[]⟩, .bool false, .int .i64 0], 10⟩ = q13 at *
  refine (rtext_any w0 _ ib s hs 4611686018427387903 _ hi).mono ?_
  rintro v q14 ⟨rfl, hi, hc⟩
  obtain ⟨⟨x6, s6⟩, e6⟩ : ∃ p, p = txtS 4611686018427387903 s.length s5 := ⟨_, rfl⟩
  rw [← e6] at hi
  rw [← e6]
  simp only at hi
  have hrv := hrv.chg hc (fun a ea e => (hnA a ea).1 e)
  have hm := hc.m _ _ hm hne
  have hw := hc.m _ _ hw hnw
  have hcc := hcc.trans (hc.mono (G := fun x => x = ib ∨ x = rb ∨ x = wb) fun x _ e => .inl e)
  have hibl := Nat.lt_of_lt_of_le hibl hc.top
  simp -dsimp -implicitDefEqProofs (disch := first | omega | assumption | (simp only [Option.isSome_some, Qt0]; done) | (simp only [UInt64.reduceToNat, UInt32.reduceToNat, UInt8.reduceToNat, List.length_cons, List.length_nil, List.length_append, Int.toNat_natCast] <;> omega) | fail) only [Nat.reduceLT, Nat.reduceLeDiff, Nat.reduceEqDiff, ↓reduceIte, Int.reduceLT, Int.reduceLE, Int.reduceToNat, Int.reduceEq, Int.reduceNe, Nat.reduceAdd, UInt8.reduceOfNat, UInt16.reduceOfNat, UInt32.reduceOfNat, UInt64.reduceOfNat, UInt64.reduceToNat, UInt32.reduceToNat, UInt16.reduceToNat, UInt8.reduceToNat, Int.reduceAdd, Int.reduceSub, Int.reduceMul, Nat.reduceMul, Qp0, Qp1, Ql0, Qe0, rd_M, rdM_some, hm, hw, List.set_cons_zero, List.set_cons_succ, List.take_zero, List.drop_succ_cons, List.drop_zero, List.drop_nil, List.nil_append, List.append_nil, List.take_succ_cons, ite_true, PH.new_new]
  have hcc := hcc.put (F := fun x => x = ib ∨ x = rb ∨ x = wb) (b := wb) (.inr (.inr rfl)) ⟨[.int .i64 x1, .int .i64 x2, .int .i64 x3, .int .i64 x1, .slice A x4.length cap, str x5, str x6, .string ⟨#[]⟩, .bool false, .int .i64 0], 10⟩
  have hi := hi.chg (F := (· = wb)) ((Chg.refl (· = wb) q14).one ⟨[.int .i64 x1, .int .i64 x2, .int .i64 x3, .int .i64 x1, .slice A x4.length cap, str x5, str x6, .string ⟨#[]⟩, .bool false, .int .i64 0], 10⟩) (fun e => hnw e.symm)
  have hrv := hrv.chg (F := (· = wb)) ((Chg.refl (· = wb) q14).one ⟨[.int .i64 x1, .int .i64 x2, .int .i64 x3, .int .i64 x1, .slice A x4.length cap, str x5, str x6, .string ⟨#[]⟩, .bool false, .int .i64 0], 10⟩) (fun a ea e => (hnA a ea).2.2.1 e)
  have hm : (q14.new wb ⟨[.int .i64 x1, .int .i64 x2, .int .i64 x3, .int .i64 x1, .slice A x4.length cap, str x5, str x6, .string ⟨#[]⟩, .bool false, .int .i64 0], 10⟩).m rb = some ⟨[.int .i64 0, .int .i64 0, .int .i64 0, .int .i64 0, .slice none 0 0, .string ⟨#[]⟩, .string ⟨#[]⟩, .string ⟨#[]⟩, .bool false, .int .i64 0], 10⟩ := by rw [PH.new_m, if_neg hrw]; exact hm
  have hw : (q14.new wb ⟨[.int .i64 x1, .int .i64 x2, .int .i64 x3, .int .i64 x1, .slice A x4.length cap, str x5, str x6, .string ⟨#[]⟩, .bool false, .int .i64 0], 10⟩).m wb = some ⟨[.int .i64 x1, .int .i64 x2, .int .i64 x3, .int .i64 x1, .slice A x4.length cap, str x5, str x6, .string ⟨#[]⟩, .bool false, .int .i64 0], 10⟩ := by rw [PH.new_m, if_pos rfl]
  have hibl : ib < (q14.new wb ⟨[.int .i64 x1, .int .i64 x2, .int .i64 x3, .int .i64 x1, .slice A x4.length cap, str x5, str x6, .string ⟨#[]⟩, .bool false, .int .i64 0], 10⟩).top := by simp only [PH.new_top]; omega
  generalize q14.new wb ⟨[.int .i64 x1, .int .i64 x2, .int .i64 x3, .int .i64 x1, .slice A x4.length cap, str x5, str x6, .string ⟨#[]⟩, .bool false, .int .i64 0], 10⟩ = q15 at *
  refine (rflag_any w0 _ ib s hs _ hi).mono ?_
  rintro v q16 ⟨rfl, hi, hc⟩
  obtain ⟨⟨x7, s7⟩, e7⟩ : ∃ p, p = flagS s.length s6 := ⟨_, rfl⟩
  rw [← e7] at hi
  rw [← e7]
  simp only at hi
  have hrv := hrv.chg hc (fun a ea e => (hnA a ea).1 e)
  have hm := hc.m _ _ hm hne
  have hw := hc.m _ _ hw hnw
  have hcc := hcc.trans (hc.mono (G := fun x => x = ib ∨ x = rb ∨ x = wb) fun x _ e => .inl e)
  have hibl := Nat.lt_of_lt_of_le hibl hc.top
  simp -dsimp -implicitDefEqProofs (disch := first | omega | assumption | (simp only [Option.isSome_some, Qt0]; done) | (simp only [UInt64.reduceToNat, UInt32.reduceToNat, UInt8.reduceToNat, List.length_cons, List.length_nil, List.length_append, Int.toNat_natCast] <;> omega) | fail) only [Nat.reduceLT, Nat.reduceLeDiff, Nat.reduceEqDiff, ↓reduceIte, Int.reduceLT, Int.reduceLE, Int.reduceToNat, Int.reduceEq, Int.reduceNe, Nat.reduceAdd, UInt8.reduceOfNat, UInt16.reduceOfNat, UInt32.reduceOfNat, UInt64.reduceOfNat, UInt64.reduceToNat, UInt32.reduceToNat, UInt16.reduceToNat, UInt8.reduceToNat, Int.reduceAdd, Int.reduceSub, Int.reduceMul, Nat.reduceMul, Qp0, Qp1, Ql0, Qe0, rd_M, rdM_some, hm, hw, List.set_cons_zero, List.set_cons_succ, List.take_zero, List.drop_succ_cons, List.drop_zero, List.drop_nil, List.nil_append, List.append_nil, List.take_succ_cons, ite_true, PH.new_new]
  have hcc := hcc.put (F := fun x => x = ib ∨ x = rb ∨ x = wb) (b := wb) (.inr (.inr rfl)) ⟨[.int .i64 x1, .int .i64 x2, .int .i64 x3, .int .i64 x1, .slice A x4.length cap, str x5, str x6, .string ⟨#[]⟩, .bool x7, .int .i64 0], 10⟩
  have hi := hi.chg (F := (· = wb)) ((Chg.refl (· = wb) q16).one ⟨[.int .i64 x1, .int .i64 x2, .int .i64 x3, .int .i64 x1, .slice A x4.length cap, str x5, str x6, .string ⟨#[]⟩, .bool x7, .int .i64 0], 10⟩) (fun e => hnw e.symm)
  have hrv := hrv.chg (F := (· = wb)) ((Chg.refl (· = wb) q16).one ⟨[.int .i64 x1, .int .i64 x2, .int .i64 x3, .int .i64 x1, .slice A x4.length cap, str x5, str x6, .string ⟨#[]⟩, .bool x7, .int .i64 0], 10⟩) (fun a ea e => (hnA a ea).2.2.1 e)
  have hm : (q16.new wb ⟨[.int .i64 x1, .int .i64 x2, .int .i64 x3, .int .i64 x1, .slice A x4.length cap, str x5, str x6, .string ⟨#[]⟩, .bool x7, .int .i64 0], 10⟩).m rb = some ⟨[.int .i64 0, .int .i64 0, .int .i64 0, .int .i64 0, .slice none 0 0, .string ⟨#[]⟩, .string ⟨#[]⟩, .string ⟨#[]⟩, .bool false, .int .i64 0], 10⟩ := by rw [PH.new_m, if_neg hrw]; exact hm
  have hw : (q16.new wb ⟨[.int .i64 x1, .int .i64 x2, .int .i64 x3, .int .i64 x1, .slice A x4.length cap, str x5, str x6, .string ⟨#[]⟩, .bool x7, .int .i64 0], 10⟩).m wb = some ⟨[.int .i64 x1, .int .i64 x2, .int .i64 x3, .int .i64 x1, .slice A x4.length cap, str x5, str x6, .string ⟨#[]⟩, .bool x7, .int .i64 0], 10⟩ := by rw [PH.new_m, if_pos rfl]
  have hibl : ib < (q16.new wb ⟨[.int .i64 x1, .int .i64 x2, .int .i64 x3, .int .i64 x1, .slice A x4.length cap, str x5, str x6, .string ⟨#[]⟩, .bool x7, .int .i64 0], 10⟩).top := by simp only [PH.new_top]; omega
  generalize q16.new wb ⟨[.int .i64 x1, .int .i64 x2, .int .i64 x3, .int .i64 x1, .slice A x4.length cap, str x5, str x6, .string ⟨#[]⟩, .bool x7, .int .i64 0], 10⟩ = q17 at *
  refine (rtext_any w0 _ ib s hs 4611686018427387903 _ hi).mono ?_
  rintro v q18 ⟨rfl, hi, hc⟩
  obtain ⟨⟨x8, s8⟩, e8⟩ : ∃ p, p = txtS 4611686018427387903 s.length s7 := ⟨_, rfl⟩
  rw [← e8] at hi
  rw [← e8]
  simp only at hi
  have hrv := hrv.chg hc (fun a ea e => (hnA a ea).1 e)
  have hm := hc.m _ _ hm hne
  have hw := hc.m _ _ hw hnw
  have hcc := hcc.trans (hc.mono (G := fun x => x = ib ∨ x = rb ∨ x = wb) fun x _ e => .inl e)
  have hibl := Nat.lt_of_lt_of_le hibl hc.top
  simp -dsimp -implicitDefEqProofs (disch := first | omega | assumption | (simp only [Option.isSome_some, Qt0]; done) | (simp only [UInt64.reduceToNat, UInt32.reduceToNat, UInt8.reduceToNat, List.length_cons, List.length_nil, List.length_append, Int.toNat_natCast] <;> omega) | fail) only [Nat.reduceLT, Nat.reduceLeDiff, Nat.reduceEqDiff, ↓reduceIte, Int.reduceLT, Int.reduceLE, Int.reduceToNat, Int.reduceEq, Int.reduceNe, Nat.reduceAdd, UInt8.reduceOfNat, UInt16.reduceOfNat, UInt32.reduceOfNat, UInt64.reduceOfNat, UInt64.reduceToNat, UInt32.reduceToNat, UInt16.reduceToNat, UInt8.reduceToNat, Int.reduceAdd, Int.reduceSub, Int.reduceMul, Nat.reduceMul, Qp0, Qp1, Ql0, Qe0, rd_M, rdM_some, hm, hw, List.set_cons_zero, List.set_cons_succ, List.take_zero, List.drop_succ_cons, List.drop_zero, List.drop_nil, List.nil_append, List.append_nil, List.take_succ_cons, ite_true, PH.new_new]
  have hcc := hcc.put (F := fun x => x = ib ∨ x = rb ∨ x = wb) (b := wb) (.inr (.inr rfl)) ⟨[.int .i64 x1, .int .i64 x2, .int .i64 x3, .int .i64 x1, .slice A x4.length cap, str x5, str x6, str x8, .bool x7, .int .i64 0], 10⟩
  have hi := hi.chg (F := (· = wb)) ((Chg.refl (· = wb) q18).one ⟨[.int .i64 x1, .int .i64 x2, .int .i64 x3, .int .i64 x1, .slice A x4.length cap, str x5, str x6, str x8, .bool x7, .int .i64 0], 10⟩) (fun e => hnw e.symm)
  have hrv := hrv.chg (F := (· = wb)) ((Chg.refl (· = wb) q18).one ⟨[.int .i64 x1, .int .i64 x2, .int .i64 x3, .int .i64 x1, .slice A x4.length cap, str x5, str x6, str x8, .bool x7, .int .i64 0], 10⟩) (fun a ea e => (hnA a ea).2.2.1 e)
  have hm : (q18.new wb ⟨[.int .i64 x1, .int .i64 x2, .int .i64 x3, .int .i64 x1, .slice A x4.length cap, str x5, str x6, str x8, .bool x7, .int .i64 0], 10⟩).m rb = some ⟨[.int .i64 0, .int .i64 0, .int .i64 0, .int .i64 0, .slice none 0 0, .string ⟨#[]⟩, .string ⟨#[]⟩, .string ⟨#[]⟩, .bool false, .int .i64 0], 10⟩ := by rw [PH.new_m, if_neg hrw]; exact hm
  have hw : (q18.new wb ⟨[.int .i64 x1, .int .i64 x2, .int .i64 x3, .int .i64 x1, .slice A x4.length cap, str x5, str x6, str x8, .bool x7, .int .i64 0], 10⟩).m wb = some ⟨[.int .i64 x1, .int .i64 x2, .int .i64 x3, .int .i64 x1, .slice A x4.length cap, str x5, str x6, str x8, .bool x7, .int .i64 0], 10⟩ := by rw [PH.new_m, if_pos rfl]
  have hibl : ib < (q18.new wb ⟨[.int .i64 x1, .int .i64 x2, .int .i64 x3, .int .i64 x1, .slice A x4.length cap, str x5, str x6, str x8, .bool x7, .int .i64 0], 10⟩).top := by simp only [PH.new_top]; omega
  generalize q18.new wb ⟨[.int .i64 x1, .int .i64 x2, .int .i64 x3, .int .i64 x1, .slice A x4.length cap, str x5, str x6, str x8, .bool x7, .int .i64 0], 10⟩ = q19 at *
  refine (rnum_any w0 _ ib s hs 4611686018427387903 _ hi).mono ?_
  rintro v q20 ⟨rfl, hi, hc⟩
  obtain ⟨⟨x9, s9⟩, e9⟩ : ∃ p, p = numS 4611686018427387903 s.length s8 := ⟨_, rfl⟩
  rw [← e9] at hi
  rw [← e9]
  simp only at hi
  have hrv := hrv.chg hc (fun a ea e => (hnA a ea).1 e)
  have hm := hc.m _ _ hm hne
  have hw := hc.m _ _ hw hnw
  have hcc := hcc.trans (hc.mono (G := fun x => x = ib ∨ x = rb ∨ x = wb) fun x _ e => .inl e)
  have hibl := Nat.lt_of_lt_of_le hibl hc.top
  simp -dsimp -implicitDefEqProofs (disch := first | omega | assumption | (simp only [Option.isSome_some, Qt0]; done) | (simp only [UInt64.reduceToNat, UInt32.reduceToNat, UInt8.reduceToNat, List.length_cons, List.length_nil, List.length_append, Int.toNat_natCast] <;> omega) | fail) only [Nat.reduceLT, Nat.reduceLeDiff, Nat.reduceEqDiff, ↓reduceIte, Int.reduceLT, Int.reduceLE, Int.reduceToNat, Int.reduceEq, Int.reduceNe, Nat.reduceAdd, UInt8.reduceOfNat, UInt16.reduceOfNat, UInt32.reduceOfNat, UInt64.reduceOfNat, UInt64.reduceToNat, UInt32.reduceToNat, UInt16.reduceToNat, UInt8.reduceToNat, Int.reduceAdd, Int.reduceSub, Int.reduceMul, Nat.reduceMul, Qp0, Qp1, Ql0, Qe0, rd_M, rdM_some, hm, hw, List.set_cons_zero, List.set_cons_succ, List.take_zero, List.drop_succ_cons, List.drop_zero, List.drop_nil, List.nil_append, List.append_nil, List.take_succ_cons, ite_true, PH.new_new]
  have hcc := hcc.put (F := fun x => x = ib ∨ x = rb ∨ x = wb) (b := wb) (.inr (.inr rfl)) ⟨[.int .i64 x1, .int .i64 x2, .int .i64 x3, .int .i64 x1, .slice A x4.length cap, str x5, str x6, str x8, .bool x7, .int .i64 x9], 10⟩
  have hi := hi.chg (F := (· = wb)) ((Chg.refl (· = wb) q20).one ⟨[.int .i64 x1, .int .i64 x2, .int .i64 x3, .int .i64 x1, .slice A x4.length cap, str x5, str x6, str x8, .bool x7, .int .i64 x9], 10⟩) (fun e => hnw e.symm)
  have hrv := hrv.chg (F := (· = wb)) ((Chg.refl (· = wb) q20).one ⟨[.int .i64 x1, .int .i64 x2, .int .i64 x3, .int .i64 x1, .slice A x4.length cap, str x5, str x6, str x8, .bool x7, .int .i64 x9], 10⟩) (fun a ea e => (hnA a ea).2.2.1 e)
  have hm : (q20.new wb ⟨[.int .i64 x1, .int .i64 x2, .int .i64 x3, .int .i64 x1, .slice A x4.length cap, str x5, str x6, str x8, .bool x7, .int .i64 x9], 10⟩).m rb = some ⟨[.int .i64 0, .int .i64 0, .int .i64 0, .int .i64 0, .slice none 0 0, .string ⟨#[]⟩, .string ⟨#[]⟩, .string ⟨#[]⟩, .bool false, .int .i64 0], 10⟩ := by rw [PH.new_m, if_neg hrw]; exact hm
  have hw : (q20.new wb ⟨[.int .i64 x1, .int .i64 x2, .int .i64 x3, .int .i64 x1, .slice A x4.length cap, str x5, str x6, str x8, .bool x7, .int .i64 x9], 10⟩).m wb = some ⟨[.int .i64 x1, .int .i64 x2, .int .i64 x3, .int .i64 x1, .slice A x4.length cap, str x5, str x6, str x8, .bool x7, .int .i64 x9], 10⟩ := by rw [PH.new_m, if_pos rfl]
  have hibl : ib < (q20.new wb ⟨[.int .i64 x1, .int .i64 x2, .int .i64 x3, .int .i64 x1, .slice A x4.length cap, str x5, str x6, str x8, .bool x7, .int .i64 x9], 10⟩).top := by simp only [PH.new_top]; omega
  generalize q20.new wb ⟨[.int .i64 x1, .int .i64 x2, .int .i64 x3, .int .i64 x1, .slice A x4.length cap, str x5, str x6, str x8, .bool x7, .int .i64 x9], 10⟩ = q21 at *
  have hch : ChW 4611686018427387903 4611686018427387903 4611686018427387903 4611686018427387903 4611686018427387903 s.length s x1 x2 x3 x4 x5 x6 x7 x8 x9 s1 s2 s3 s4 s5 s6 s7 s8 s9 := ⟨e1, e2, e3, e4, e5, e6, e7, e8, e9⟩
  have hC0 : rdN w0 q21 ⟨wb, 0, none⟩ 10 = some [.int .i64 x1, .int .i64 x2, .int .i64 x3, .int .i64 x1, .slice A x4.length cap, str x5, str x6, str x8, .bool x7, .int .i64 x9] := by unfold rdN; simp only [hw]; rfl
  have hz := allOne_of [.int .i64 0, .int .i64 0, .int .i64 0, .int .i64 0, .slice none 0 0, .string ⟨#[]⟩, .string ⟨#[]⟩, .string ⟨#[]⟩, .bool false, .int .i64 0] rfl
  have ha2 := allOne_of [.int .i64 x1, .int .i64 x2, .int .i64 x3, .int .i64 x1, .slice A x4.length cap, str x5, str x6, str x8, .bool x7, .int .i64 x9] rfl
  have hleq : PH.Le h q21 := ⟨Nat.le_trans hle2.top hcc.top, fun x k e => hcc.m x k (hle2.m x k e) (fun e' => by have := h.lt _ _ e; rcases e' with e' | e' | e' <;> omega)⟩
  refine (rfault_any w0 q21 ib s _ hi).mono ?_
  rintro v qf ⟨rfl, hzz⟩
  obtain rfl := hzz.symm
  have hR := rrightW_any w0 q21 ⟨x1, x2, x3, x1, x4, x5, x6, x8, x7, x9⟩ A cap hrv hcap (by have := vecS_len e4; simp only; omega)
  unfold wtL at hR
  simp only at hR
  by_cases hok : s9 = .ok []
  · have hf : decide (St.fault s.length s9 ≥ 0) = false := by rw [hok]; rfl
    have hs0 := hch.back hok
    cases hr : rightW ⟨x1, x2, x3, x1, x4, x5, x6, x8, x7, x9⟩ with
    | true =>
      rw [hr] at hR
      have hR := Lib.hid hR
      simp -dsimp -implicitDefEqProofs (disch := first | omega | assumption | (simp only [Option.isSome_some, Qt0]; done) | (simp only [UInt64.reduceToNat, UInt32.reduceToNat, UInt8.reduceToNat, List.length_cons, List.length_nil, List.length_append, Int.toNat_natCast] <;> omega) | fail) only [Nat.reduceLT, Nat.reduceLeDiff, Nat.reduceEqDiff, ↓reduceIte, Int.reduceLT, Int.reduceLE, Int.reduceToNat, Int.reduceEq, Int.reduceNe, Nat.reduceAdd, UInt8.reduceOfNat, UInt16.reduceOfNat, UInt32.reduceOfNat, UInt64.reduceOfNat, UInt64.reduceToNat, UInt32.reduceToNat, UInt16.reduceToNat, UInt8.reduceToNat, Int.reduceAdd, Int.reduceSub, Int.reduceMul, Nat.reduceMul, Qp0, Qp1, Ql0, Qe0, hf, hC0]
      refine hR.out.mono ?_
      rintro v hq ⟨rfl, hz⟩
      obtain rfl := hz.symm
      simp -dsimp -implicitDefEqProofs (disch := first | omega | assumption | (simp only [Option.isSome_some, Qt0]; done) | (simp only [UInt64.reduceToNat, UInt32.reduceToNat, UInt8.reduceToNat, List.length_cons, List.length_nil, List.length_append, Int.toNat_natCast] <;> omega) | fail) only [Nat.reduceLT, Nat.reduceLeDiff, Nat.reduceEqDiff, ↓reduceIte, Int.reduceLT, Int.reduceLE, Int.reduceToNat, Int.reduceEq, Int.reduceNe, Nat.reduceAdd, UInt8.reduceOfNat, UInt16.reduceOfNat, UInt32.reduceOfNat, UInt64.reduceOfNat, UInt64.reduceToNat, UInt32.reduceToNat, UInt16.reduceToNat, UInt8.reduceToNat, Int.reduceAdd, Int.reduceSub, Int.reduceMul, Nat.reduceMul, Qp0, Qp1, Ql0, Qe0, hC0, hm, rdN_new, List.set_cons_zero, List.set_cons_succ, List.take_zero, List.drop_succ_cons, List.drop_zero, List.drop_nil, List.nil_append, List.append_nil, List.take_succ_cons, ite_true, PH.new_new]
      refine ⟨_, PH.Le.refl _, .inl ⟨⟨x1, x2, x3, x1, x4, x5, x6, x8, x7, x9⟩, A, cap, ⟨hr, hs0⟩, rfl, hcap, ?_, fun a ea => (hnA a ea).2.2.2⟩, hleq.new _ _ hrb⟩
      exact hrv.chg (F := (· = rb)) ((Chg.refl _ _).one _) (fun a ea e => (hnA a ea).2.1 e)
    | false =>
      rw [hr] at hR
      have hR := Lib.hid hR
      simp -dsimp -implicitDefEqProofs (disch := first | omega | assumption | (simp only [Option.isSome_some, Qt0]; done) | (simp only [UInt64.reduceToNat, UInt32.reduceToNat, UInt8.reduceToNat, List.length_cons, List.length_nil, List.length_append, Int.toNat_natCast] <;> omega) | fail) only [Nat.reduceLT, Nat.reduceLeDiff, Nat.reduceEqDiff, ↓reduceIte, Int.reduceLT, Int.reduceLE, Int.reduceToNat, Int.reduceEq, Int.reduceNe, Nat.reduceAdd, UInt8.reduceOfNat, UInt16.reduceOfNat, UInt32.reduceOfNat, UInt64.reduceOfNat, UInt64.reduceToNat, UInt32.reduceToNat, UInt16.reduceToNat, UInt8.reduceToNat, Int.reduceAdd, Int.reduceSub, Int.reduceMul, Nat.reduceMul, Qp0, Qp1, Ql0, Qe0, hf, hC0]
      refine hR.out.mono ?_
      rintro v hq ⟨rfl, hz⟩
      obtain rfl := hz.symm
      simp -dsimp -implicitDefEqProofs (disch := first | omega | assumption | (simp only [Option.isSome_some, Qt0]; done) | (simp only [UInt64.reduceToNat, UInt32.reduceToNat, UInt8.reduceToNat, List.length_cons, List.length_nil, List.length_append, Int.toNat_natCast] <;> omega) | fail) only [Nat.reduceLT, Nat.reduceLeDiff, Nat.reduceEqDiff, ↓reduceIte, Int.reduceLT, Int.reduceLE, Int.reduceToNat, Int.reduceEq, Int.reduceNe, Nat.reduceAdd, UInt8.reduceOfNat, UInt16.reduceOfNat, UInt32.reduceOfNat, UInt64.reduceOfNat, UInt64.reduceToNat, UInt32.reduceToNat, UInt16.reduceToNat, UInt8.reduceToNat, Int.reduceAdd, Int.reduceSub, Int.reduceMul, Nat.reduceMul, Qp0, Qp1, Ql0, Qe0, hC0, hm, rdN_new, List.set_cons_zero, List.set_cons_succ, List.take_zero, List.drop_succ_cons, List.drop_zero, List.drop_nil, List.nil_append, List.append_nil, List.take_succ_cons, ite_true, PH.new_new]
      refine ⟨_, PH.Le.refl _, .inr ⟨fun d hd => ?_, rfl⟩, hleq.new _ _ hrb⟩
      obtain ⟨h5, _⟩ := hch.fwd (by omega) (by omega) (by omega) (by omega) (by omega) hd
      rw [h5] at hd
      rw [hd.1] at hr; cases hr
  · have hf : decide (St.fault s.length s9 ≥ 0) = true := decide_eq_true (by
      cases hl : s9 with
      | bad p => show (0 : Int) ≤ (p : Int); omega
      | ok t =>
        cases t with
        | nil => exact absurd hl hok
        | cons c t => show (0 : Int) ≤ ((s.length - (c :: t).length : Nat) : Int); omega)
    simp -dsimp -implicitDefEqProofs (disch := first | omega | assumption | (simp only [Option.isSome_some, Qt0]; done) | (simp only [UInt64.reduceToNat, UInt32.reduceToNat, UInt8.reduceToNat, List.length_cons, List.length_nil, List.length_append, Int.toNat_natCast] <;> omega) | fail) only [Nat.reduceLT, Nat.reduceLeDiff, Nat.reduceEqDiff, ↓reduceIte, Int.reduceLT, Int.reduceLE, Int.reduceToNat, Int.reduceEq, Int.reduceNe, Nat.reduceAdd, UInt8.reduceOfNat, UInt16.reduceOfNat, UInt32.reduceOfNat, UInt64.reduceOfNat, UInt64.reduceToNat, UInt32.reduceToNat, UInt16.reduceToNat, UInt8.reduceToNat, Int.reduceAdd, Int.reduceSub, Int.reduceMul, Nat.reduceMul, Qp0, Qp1, Ql0, Qe0, hf, hC0, hm, rdN_new, List.set_cons_zero, List.set_cons_succ, List.take_zero, List.drop_succ_cons, List.drop_zero, List.drop_nil, List.nil_append, List.append_nil, List.take_succ_cons, ite_true, PH.new_new]
    refine ⟨_, PH.Le.refl _, .inr ⟨fun d hd => ?_, rfl⟩, hleq.new _ _ hrb⟩
    exact hok (hch.fwd (by omega) (by omega) (by omega) (by omega) (by omega) hd).2
end Go.Proofs.Ytdhgmifgjaedbaa


/- The program's errors in the logic: errors.Is finds the code of an error however often it is wrapped. No condition. -/
namespace Go.Proofs.Ytdhgmifgjaedbaa
set_option linter.unusedVariables false
set_option linter.unusedSimpArgs false
open Go.RowKit Px Go.Extern.Stop Go.Stop Go.Extern
theorem noIs (b : Nat) (xT : TypeId) {K : Value → Prop} : Yld Try.prog (Instr.typeAssert (errV b) xT 123 true) K = K (.tuple #[.nilIface, .bool false]) := Yld_eq fun w => run_typeAssert_lacksB Try.underlying123 (by kernel_rfl) (by kernel_rfl) _ xT w
theorem hasUnwrap (b : Nat) (xT : TypeId) {K : Value → Prop} : Yld Try.prog (Instr.typeAssert (errV b) xT 126 true) K = K (.tuple #[errV b, .bool true]) := Yld_eq fun w => run_typeAssert_hasB Try.underlying126 (by kernel_rfl) _ xT w
theorem noIsC (k : Int) (xT : TypeId) {K : Value → Prop} : Yld Try.prog (Instr.typeAssert (codeV k) xT 123 true) K = K (.tuple #[.nilIface, .bool false]) := Yld_eq fun w => run_typeAssert_lacksB Try.underlying123 (by kernel_rfl) (by kernel_rfl) _ xT w
theorem noUnwrapC (k : Int) (xT : TypeId) {K : Value → Prop} : Yld Try.prog (Instr.typeAssert (codeV k) xT 126 true) K = K (.tuple #[.nilIface, .bool false]) := Yld_eq fun w => run_typeAssert_lacksB Try.underlying126 (by kernel_rfl) (by kernel_rfl) _ xT w
theorem noUnwrapsC (k : Int) (xT : TypeId) {K : Value → Prop} : Yld Try.prog (Instr.typeAssert (codeV k) xT 127 true) K = K (.tuple #[.nilIface, .bool false]) := Yld_eq fun w => run_typeAssert_lacksB Try.underlying127 (by kernel_rfl) (by kernel_rfl) _ xT w
theorem comp_code : (Try.prog.info? 40).map (·.comparable) = some true := by kernel_rfl
theorem run_equalIn_iface_int (w : World) (d : Nat) {P : Program} {ti tn : TypeId} {ms : Array (String × TypeId)} {i : TypeInfo} {k : IntKind} (a b : Int)
    (hi : P.underlying ti = some (.interface ms)) (hn : P.underlying tn = some (.int k)) (hinfo : P.info? tn = some i) (hcomp : i.comparable = true) :
    (Op.equalIn (d + 2) ti (.iface tn (.int k a)) (.iface tn (.int k b))).run P w = .ok (a == b) w := by
  simp [Op.equalIn, run_underlying hi, run_underlying hn, typeInfo, hinfo, hcomp]
theorem run_equalIn_iface_other (w : World) (d : Nat) {P : Program} {ti tx ty : TypeId} {ms : Array (String × TypeId)} (x y : Value) (hi : P.underlying ti = some (.interface ms)) (hne : tx ≠ ty) :
    (Op.equalIn (d + 2) ti (.iface tx x) (.iface ty y)).run P w = .ok false w := by
  simp [Op.equalIn, run_underlying hi, hne]
theorem eql_code (a b : Int) (w : World) : (binOp .eql 31 (codeV a) (codeV b)).run Try.prog w = .ok (.bool (a == b)) w := by
  obtain ⟨i, hi, hcmp⟩ := Option.map_eq_some_iff.1 comp_code
  unfold codeV
  simp only [binOp]
  simp [Op.equal, Op.maxDepth, run_equalIn_iface_int w 9998 a b Try.underlying31 Try.underlying40 hi hcmp]
theorem eql_other (v : Value) (b : Int) (w : World) : (binOp .eql 31 (.iface 136 v) (codeV b)).run Try.prog w = .ok (.bool false) w := by
  unfold codeV
  simp only [binOp]
  simp [Op.equal, Op.maxDepth, run_equalIn_iface_other w 9998 v (.int .i64 b) Try.underlying31 (show 136 ≠ 40 by decide)]
theorem y_eqlCC (x y : Tmp) (a b : Int) {K : Value → Prop} : Yld Try.prog (binS .eql 31 (.tmp x) (.tmp y) (codeV a) (codeV b)) K = K (.bool (a == b)) := Yld_eq fun w => by
  have := eql_code a b w
  unfold binS eqGuard codeV at *
  simp [this]
theorem y_eqlEC (x y : Tmp) (b : Nat) (c : Int) {K : Value → Prop} : Yld Try.prog (binS .eql 31 (.tmp x) (.tmp y) (errV b) (codeV c)) K = K (.bool false) := Yld_eq fun w => by
  have := eql_other (.pointer (some ⟨b, 0, none⟩)) c w
  unfold binS eqGuard errV codeV at *
  simp [this]
theorem unwrap_method (p : Value) (w : World) : (callMethod (.iface 136 p) "Unwrap" #[]).run Try.prog w = (callFunc 103 [p].toArray).run Try.prog w := by kernel_rfl
set_option maxRecDepth 20000 in
theorem unwrap_any (b : Nat) (s : List UInt8) (a : Int) (u : Value) (w0 : World) (h : PH) (hb : h.m b = some ⟨[str s, .int .i64 a, u], 3⟩) : PCalls Try.prog w0 103 [.pointer (some ⟨b, 0, none⟩)] h fun r h' => r = u ∧ h' = h := by
  refine PCalls_body Try.func103 (by kernel_rfl) rfl _ Try.ntmps103 (by kernel_rfl) (by kernel_rfl) _ Try.results103 ?_
  simp -dsimp -implicitDefEqProofs (disch := first | omega | assumption | (simp only [Option.isSome_some, Qt0]; done) | (simp only [UInt64.reduceToNat, UInt32.reduceToNat, UInt8.reduceToNat, List.length_cons, List.length_nil, List.length_append, Int.toNat_natCast] <;> omega) | fail) only [Nat.reduceLT, Nat.reduceLeDiff, Nat.reduceEqDiff, ↓reduceIte, Int.reduceLT, Int.reduceLE, Int.reduceToNat, Int.reduceEq, Int.reduceNe, Nat.reduceAdd, UInt8.reduceOfNat, UInt16.reduceOfNat, UInt32.reduceOfNat, UInt64.reduceOfNat, UInt64.reduceToNat, UInt32.reduceToNat, UInt16.reduceToNat, UInt8.reduceToNat, Int.reduceAdd, Int.reduceSub, Int.reduceMul, Nat.reduceMul, Qp0, Qp1, Ql0, Qe0, rd_M, rdM_some, hb]
  exact ⟨_, PH.Le.refl _, by trivial, rfl⟩
set_option maxRecDepth 20000 in
/-- errors.is. -/
theorem is_any' (c : Int) (w0 : World) (h : PH) (e0 : Er) (v0 : Value) (hv0 : EV h e0 v0) : PCalls Try.prog w0 37 [v0, codeV c, .bool true] h fun r h' => r = .bool (e0.num == c) ∧ h' = h := by
  refine PCalls_body Try.func37 (by kernel_rfl) rfl _ Try.ntmps37 (by kernel_rfl) (by kernel_rfl) _ Try.results37 ?_
  simp -dsimp -implicitDefEqProofs (disch := first | omega | assumption | (simp only [Option.isSome_some, Qt0]; done) | (simp only [UInt64.reduceToNat, UInt32.reduceToNat, UInt8.reduceToNat, List.length_cons, List.length_nil, List.length_append, Int.toNat_natCast] <;> omega) | fail) only [Nat.reduceLT, Nat.reduceLeDiff, Nat.reduceEqDiff, ↓reduceIte, Int.reduceLT, Int.reduceLE, Int.reduceToNat, Int.reduceEq, Int.reduceNe, Nat.reduceAdd, UInt8.reduceOfNat, UInt16.reduceOfNat, UInt32.reduceOfNat, UInt64.reduceOfNat, UInt64.reduceToNat, UInt32.reduceToNat, UInt16.reduceToNat, UInt8.reduceToNat, Int.reduceAdd, Int.reduceSub, Int.reduceMul, Nat.reduceMul, Qp0, Qp1, Ql0, Qe0]
  refine PW_loop (fun n f h' => ∃ (e : Er) (v : Value), e.deep = n ∧ e.num = e0.num ∧ EV h e v ∧ f 0 = some v ∧ f 1 = some (codeV c) ∧ f 2 = some (.bool true) ∧ h' = h) (by kernel_rfl) e0.deep ⟨e0, v0, rfl, rfl, hv0, ?_, ?_, ?_, rfl⟩ ?_
  · simp -dsimp -implicitDefEqProofs (disch := first | omega | assumption | (simp only [Option.isSome_some, Qt0]; done) | (simp only [UInt64.reduceToNat, UInt32.reduceToNat, UInt8.reduceToNat, List.length_cons, List.length_nil, List.length_append, Int.toNat_natCast] <;> omega) | fail) only [Nat.reduceLT, Nat.reduceLeDiff, Nat.reduceEqDiff, ↓reduceIte, Int.reduceLT, Int.reduceLE, Int.reduceToNat, Int.reduceEq, Int.reduceNe, Nat.reduceAdd, UInt8.reduceOfNat, UInt16.reduceOfNat, UInt32.reduceOfNat, UInt64.reduceOfNat, UInt64.reduceToNat, UInt32.reduceToNat, UInt16.reduceToNat, UInt8.reduceToNat, Int.reduceAdd, Int.reduceSub, Int.reduceMul, Nat.reduceMul, Qp0, Qp1, Ql0, Qe0]
  · simp -dsimp -implicitDefEqProofs (disch := first | omega | assumption | (simp only [Option.isSome_some, Qt0]; done) | (simp only [UInt64.reduceToNat, UInt32.reduceToNat, UInt8.reduceToNat, List.length_cons, List.length_nil, List.length_append, Int.toNat_natCast] <;> omega) | fail) only [Nat.reduceLT, Nat.reduceLeDiff, Nat.reduceEqDiff, ↓reduceIte, Int.reduceLT, Int.reduceLE, Int.reduceToNat, Int.reduceEq, Int.reduceNe, Nat.reduceAdd, UInt8.reduceOfNat, UInt16.reduceOfNat, UInt32.reduceOfNat, UInt64.reduceOfNat, UInt64.reduceToNat, UInt32.reduceToNat, UInt16.reduceToNat, UInt8.reduceToNat, Int.reduceAdd, Int.reduceSub, Int.reduceMul, Nat.reduceMul, Qp0, Qp1, Ql0, Qe0]
  · simp -dsimp -implicitDefEqProofs (disch := first | omega | assumption | (simp only [Option.isSome_some, Qt0]; done) | (simp only [UInt64.reduceToNat, UInt32.reduceToNat, UInt8.reduceToNat, List.length_cons, List.length_nil, List.length_append, Int.toNat_natCast] <;> omega) | fail) only [Nat.reduceLT, Nat.reduceLeDiff, Nat.reduceEqDiff, ↓reduceIte, Int.reduceLT, Int.reduceLE, Int.reduceToNat, Int.reduceEq, Int.reduceNe, Nat.reduceAdd, UInt8.reduceOfNat, UInt16.reduceOfNat, UInt32.reduceOfNat, UInt64.reduceOfNat, UInt64.reduceToNat, UInt32.reduceToNat, UInt16.reduceToNat, UInt8.reduceToNat, Int.reduceAdd, Int.reduceSub, Int.reduceMul, Nat.reduceMul, Qp0, Qp1, Ql0, Qe0]
  rintro n f h' ⟨e, v, rfl, hn, hv, f0, f1, f2, rfl⟩
  rw [← hn]
  cases e with
  | code k =>
    obtain rfl : v = codeV k := hv
    have hnum : (Er.code k).num = k := rfl
    rw [hnum]
    cases hkc : (k == c)
    · simp -dsimp -implicitDefEqProofs (disch := first | omega | assumption | (simp only [Option.isSome_some, Qt0]; done) | (simp only [UInt64.reduceToNat, UInt32.reduceToNat, UInt8.reduceToNat, List.length_cons, List.length_nil, List.length_append, Int.toNat_natCast] <;> omega) | fail) only [Nat.reduceLT, Nat.reduceLeDiff, Nat.reduceEqDiff, ↓reduceIte, Int.reduceLT, Int.reduceLE, Int.reduceToNat, Int.reduceEq, Int.reduceNe, Nat.reduceAdd, UInt8.reduceOfNat, UInt16.reduceOfNat, UInt32.reduceOfNat, UInt64.reduceOfNat, UInt64.reduceToNat, UInt32.reduceToNat, UInt16.reduceToNat, UInt8.reduceToNat, Int.reduceAdd, Int.reduceSub, Int.reduceMul, Nat.reduceMul, Qp0, Qp1, Ql0, Qe0, f0, f1, f2, y_eqlCC, hkc, noIsC, noUnwrapC, noUnwrapsC]
      exact ⟨_, PH.Le.refl _, by trivial, rfl⟩
    · simp -dsimp -implicitDefEqProofs (disch := first | omega | assumption | (simp only [Option.isSome_some, Qt0]; done) | (simp only [UInt64.reduceToNat, UInt32.reduceToNat, UInt8.reduceToNat, List.length_cons, List.length_nil, List.length_append, Int.toNat_natCast] <;> omega) | fail) only [Nat.reduceLT, Nat.reduceLeDiff, Nat.reduceEqDiff, ↓reduceIte, Int.reduceLT, Int.reduceLE, Int.reduceToNat, Int.reduceEq, Int.reduceNe, Nat.reduceAdd, UInt8.reduceOfNat, UInt16.reduceOfNat, UInt32.reduceOfNat, UInt64.reduceOfNat, UInt64.reduceToNat, UInt32.reduceToNat, UInt16.reduceToNat, UInt8.reduceToNat, Int.reduceAdd, Int.reduceSub, Int.reduceMul, Nat.reduceMul, Qp0, Qp1, Ql0, Qe0, f0, f1, f2, y_eqlCC, hkc]
      exact ⟨_, PH.Le.refl _, by trivial, rfl⟩
  | wrap s a e =>
    obtain ⟨b, u, rfl, hb, hu⟩ := hv
    have hun := Lib.hid (@unwrap_any b s a u w0 h' hb)
    obtain ⟨t, x, rfl⟩ := hu.held
    simp -dsimp -implicitDefEqProofs (disch := first | omega | assumption | (simp only [Option.isSome_some, Qt0]; done) | (simp only [UInt64.reduceToNat, UInt32.reduceToNat, UInt8.reduceToNat, List.length_cons, List.length_nil, List.length_append, Int.toNat_natCast] <;> omega) | fail) only [Nat.reduceLT, Nat.reduceLeDiff, Nat.reduceEqDiff, ↓reduceIte, Int.reduceLT, Int.reduceLE, Int.reduceToNat, Int.reduceEq, Int.reduceNe, Nat.reduceAdd, UInt8.reduceOfNat, UInt16.reduceOfNat, UInt32.reduceOfNat, UInt64.reduceOfNat, UInt64.reduceToNat, UInt32.reduceToNat, UInt16.reduceToNat, UInt8.reduceToNat, Int.reduceAdd, Int.reduceSub, Int.reduceMul, Nat.reduceMul, Qp0, Qp1, Ql0, Qe0, f0, f1, f2, y_eqlEC, noIs, hasUnwrap]
    refine ⟨_, _, unwrap_method _, hun.out.mono ?_⟩
    rintro v hz ⟨rfl, rfl⟩
    simp -dsimp -implicitDefEqProofs (disch := first | omega | assumption | (simp only [Option.isSome_some, Qt0]; done) | (simp only [UInt64.reduceToNat, UInt32.reduceToNat, UInt8.reduceToNat, List.length_cons, List.length_nil, List.length_append, Int.toNat_natCast] <;> omega) | fail) only [Nat.reduceLT, Nat.reduceLeDiff, Nat.reduceEqDiff, ↓reduceIte, Int.reduceLT, Int.reduceLE, Int.reduceToNat, Int.reduceEq, Int.reduceNe, Nat.reduceAdd, UInt8.reduceOfNat, UInt16.reduceOfNat, UInt32.reduceOfNat, UInt64.reduceOfNat, UInt64.reduceToNat, UInt32.reduceToNat, UInt16.reduceToNat, UInt8.reduceToNat, Int.reduceAdd, Int.reduceSub, Int.reduceMul, Nat.reduceMul, Qp0, Qp1, Ql0, Qe0, f0, f1, f2]
    exact ⟨e.deep, _, Nat.lt_succ_self _, PH.Le.refl _, e, _, rfl, rfl, hu, rfl, by trivial, by trivial, rfl⟩
set_option maxRecDepth 20000 in
theorem typeOf_code (k : Int) (w : World) : (ReflectliteType.typeOf #[codeV k]).run Try.prog w = .ok (.iface 121 (.agg #[.pointer (some ⟨0, 40, none⟩)])) w := by kernel_rfl
theorem comp_run (w : World) : ((ReflectliteType.method fun t => do Rtype.noPackHeld "Comparable" t; (fun a => Value.bool a.comparable) <$> typeInfo t) #[.agg #[.pointer (some ⟨0, 40, none⟩)]]).run Try.prog w = .ok (.bool true) w := by kernel_rfl
theorem typeof_any (k : Int) (w0 : World) (h : PH) : PCalls Try.prog w0 36 [codeV k] h fun r h' => r = .iface 121 (.agg #[.pointer (some ⟨0, 40, none⟩)]) ∧ h' = h := by
  refine PCalls_value _ (fun w => ?_) ⟨rfl, rfl⟩
  rw [@run_callFunc_extern Try.prog 36 _ ReflectliteType.typeOf Try.func36 (by kernel_rfl) (by kernel_rfl) (by kernel_rfl) (by kernel_rfl), typeOf_code]
  rfl
theorem comp_any (w0 : World) (h : PH) : PCalls Try.prog w0 93 [.agg #[.pointer (some ⟨0, 40, none⟩)]] h fun r h' => r = .bool true ∧ h' = h := by
  refine PCalls_value _ (fun w => ?_) ⟨rfl, rfl⟩
  rw [@run_callFunc_extern Try.prog 93 _ (ReflectliteType.method fun t => do Rtype.noPackHeld "Comparable" t; pure (.bool (← typeInfo t).comparable)) Try.func93 (by kernel_rfl) (by kernel_rfl) (by kernel_rfl) (by kernel_rfl)]
  have := comp_run w
  simp only [bind_pure_comp] at this ⊢
  rw [this]
  rfl
theorem comp_method (w : World) : (callMethod (.iface 121 (.agg #[.pointer (some ⟨0, 40, none⟩)])) "Comparable" #[]).run Try.prog w = (callFunc 93 [.agg #[.pointer (some ⟨0, 40, none⟩)]].toArray).run Try.prog w := by kernel_rfl
/-- errors.Is. -/
theorem is_any (c : Int) (w0 : World) (h : PH) (e0 : Er) (v0 : Value) (hv0 : EV h e0 v0) : PCalls Try.prog w0 14 [v0, codeV c] h fun r h' => r = .bool (e0.num == c) ∧ h' = h := by
  refine PCalls_body Try.func14 (by kernel_rfl) rfl _ Try.ntmps14 (by kernel_rfl) (by kernel_rfl) _ Try.results14 ?_
  have hI := Lib.hid (@is_any' c w0 h e0 v0 hv0)
  obtain ⟨t, x, rfl⟩ := hv0.held
  unfold codeV
  simp -dsimp -implicitDefEqProofs (disch := first | omega | assumption | (simp only [Option.isSome_some, Qt0]; done) | (simp only [UInt64.reduceToNat, UInt32.reduceToNat, UInt8.reduceToNat, List.length_cons, List.length_nil, List.length_append, Int.toNat_natCast] <;> omega) | fail) only [Nat.reduceLT, Nat.reduceLeDiff, Nat.reduceEqDiff, ↓reduceIte, Int.reduceLT, Int.reduceLE, Int.reduceToNat, Int.reduceEq, Int.reduceNe, Nat.reduceAdd, UInt8.reduceOfNat, UInt16.reduceOfNat, UInt32.reduceOfNat, UInt64.reduceOfNat, UInt64.reduceToNat, UInt32.reduceToNat, UInt16.reduceToNat, UInt8.reduceToNat, Int.reduceAdd, Int.reduceSub, Int.reduceMul, Nat.reduceMul, Qp0, Qp1, Ql0, Qe0]
  refine (typeof_any c w0 h).mono ?_
  rintro v hz hv
  obtain ⟨rfl, rfl⟩ := hv
  simp -dsimp -implicitDefEqProofs (disch := first | omega | assumption | (simp only [Option.isSome_some, Qt0]; done) | (simp only [UInt64.reduceToNat, UInt32.reduceToNat, UInt8.reduceToNat, List.length_cons, List.length_nil, List.length_append, Int.toNat_natCast] <;> omega) | fail) only [Nat.reduceLT, Nat.reduceLeDiff, Nat.reduceEqDiff, ↓reduceIte, Int.reduceLT, Int.reduceLE, Int.reduceToNat, Int.reduceEq, Int.reduceNe, Nat.reduceAdd, UInt8.reduceOfNat, UInt16.reduceOfNat, UInt32.reduceOfNat, UInt64.reduceOfNat, UInt64.reduceToNat, UInt32.reduceToNat, UInt16.reduceToNat, UInt8.reduceToNat, Int.reduceAdd, Int.reduceSub, Int.reduceMul, Nat.reduceMul, Qp0, Qp1, Ql0, Qe0]
  refine ⟨_, _, comp_method, (comp_any w0 _).mono ?_⟩
  rintro v hy hv
  obtain ⟨rfl, rfl⟩ := hv
  simp -dsimp -implicitDefEqProofs (disch := first | omega | assumption | (simp only [Option.isSome_some, Qt0]; done) | (simp only [UInt64.reduceToNat, UInt32.reduceToNat, UInt8.reduceToNat, List.length_cons, List.length_nil, List.length_append, Int.toNat_natCast] <;> omega) | fail) only [Nat.reduceLT, Nat.reduceLeDiff, Nat.reduceEqDiff, ↓reduceIte, Int.reduceLT, Int.reduceLE, Int.reduceToNat, Int.reduceEq, Int.reduceNe, Nat.reduceAdd, UInt8.reduceOfNat, UInt16.reduceOfNat, UInt32.reduceOfNat, UInt64.reduceOfNat, UInt64.reduceToNat, UInt32.reduceToNat, UInt16.reduceToNat, UInt8.reduceToNat, Int.reduceAdd, Int.reduceSub, Int.reduceMul, Nat.reduceMul, Qp0, Qp1, Ql0, Qe0]
  refine hI.out.mono ?_
  rintro v hx ⟨rfl, rfl⟩
  simp -dsimp -implicitDefEqProofs (disch := first | omega | assumption | (simp only [Option.isSome_some, Qt0]; done) | (simp only [UInt64.reduceToNat, UInt32.reduceToNat, UInt8.reduceToNat, List.length_cons, List.length_nil, List.length_append, Int.toNat_natCast] <;> omega) | fail) only [Nat.reduceLT, Nat.reduceLeDiff, Nat.reduceEqDiff, ↓reduceIte, Int.reduceLT, Int.reduceLE, Int.reduceToNat, Int.reduceEq, Int.reduceNe, Nat.reduceAdd, UInt8.reduceOfNat, UInt16.reduceOfNat, UInt32.reduceOfNat, UInt64.reduceOfNat, UInt64.reduceToNat, UInt32.reduceToNat, UInt16.reduceToNat, UInt8.reduceToNat, Int.reduceAdd, Int.reduceSub, Int.reduceMul, Nat.reduceMul, Qp0, Qp1, Ql0, Qe0]
  exact ⟨_, PH.Le.refl _, by trivial, rfl⟩
end Go.Proofs.Ytdhgmifgjaedbaa


/- The laws' parts: awake; whose bytes a text is. No condition. -/
namespace Go.Proofs.Ytdhgmifgjaedbaa
set_option linter.unusedVariables false
set_option linter.unusedSimpArgs false
open Go.RowKit Px Wr
theorem IsW_one {s : List UInt8} {c d : Wt} (hc : IsW s c) (hd : IsW s d) : c = d := by
  have key : ∀ {e : Wt}, IsW s e → e = _ := fun {e} he => (ChW.fwd (m1 := 16) (m2 := 1099511627776) (m3 := 64) (m4 := 32) (m5 := 128) (n := 0) (s := s) ⟨rfl, rfl, rfl, rfl, rfl, rfl, rfl, rfl, rfl⟩ (by omega) (by omega) (by omega) (by omega) (by omega) he).1
  rw [key hc, key hd]
end Go.Proofs.Ytdhgmifgjaedbaa


/- Lemmas on worlds, blocks and rows that every claim of this seat uses: a law that returns true and leaves what was there alone meets its row. No condition. -/
namespace Go.Proofs.Ytdhgmifgjaedbaa.Base
set_option linter.unusedVariables false
set_option linter.unusedSimpArgs false
open Go.ChangeShapes Go.WideShapes Go.ChangeAt Go.RowKit Go.Deep

theorem own : ownKnob Try.prog.godebug = none := by kernel_rfl
theorem laidOut : laidOutB Try.prog = true := by kernel_rfl

/-- Block b is just these cells of type t, none of them frozen. -/
def Blk (w : World) (b : Nat) (t : TypeId) (cs : Array Value) : Prop := w.heap[b]? = some (.cells cs t (0, 0))

section
variable {w w' : World} {b : Nat} {t : TypeId} {cs : Array Value}
theorem Blk.lt (h : Blk w b t cs) : b < w.heap.size := (Array.getElem?_eq_some_iff.1 h).1
theorem Blk.cell (h : Blk w b t cs) (i : Nat) : w.cell? ⟨b, i, none⟩ = cs[i]? := cell_of_row w b i cs t (0, 0) h
theorem Blk.frozen (h : Blk w b t cs) (i : Nat) : w.frozen? ⟨b, i, none⟩ = false := by
  unfold Blk at h
  simp [World.frozen?, h]
theorem Blk.new (w : World) (t : TypeId) (cs : Array Value) : Blk (w.alloc (.cells cs t)) w.heap.size t cs := heap_alloc_new w _
theorem Blk.drew (h : Blk w b t cs) : Blk w.drew b t cs := h
theorem Blk.alloc (h : Blk w b t cs) (o : Obj) : Blk (w.alloc o) b t cs := (Below.heap_alloc w o b h.lt).trans h
theorem Blk.set_ (h : Blk w b t cs) (i : Nat) (u : Value) : Blk (w.setCell ⟨b, i, none⟩ u) b t (cs.setIfInBounds i u) := by
  unfold Blk at h ⊢
  simp [World.setCell, Array.getElem?_modify, h]
theorem Blk.below {B : Nat} (h : Blk w b t cs) (hb : Below B w w') (hlt : b < B) : Blk w' b t cs := (hb.block b hlt).trans h
theorem Blk.on (h : Blk w b t cs) (hb : Below w.heap.size w w') : Blk w' b t cs := h.below hb h.lt
theorem Blk.grown {row : Option Nat} (h : Blk w b t cs) (hb : w.grownBy w' row) (hne : some b ≠ row) : Blk w' b t cs := (hb.block b h.lt hne).trans h
end

/-- The arguments read behind the call as before it. -/
theorem args_keep {H : Type} {enc : TypeId × Value → H} {P : Program} (hl : laidOutB P = true) {W W' : World} (hb : Below W.heap.size W W') :
    ∀ {ts : List TypeId} {vs : List Value} {ds : List (DataW H)} {ps : List MemPlace}, (∀ t ∈ ts, P.readableRec t = true ∧ t < P.types.size) → (∀ x ∈ ps, x.block < W.heap.size) →
      DataW.TrodAll enc P W 0 (fun _ => true) true ts vs ds ps → DataW.TrodAll enc P W' 0 (fun b => decide (b < W.heap.size)) true ts vs ds ps
  | [], _, _, _, _, _, h => by
    obtain ⟨rfl, rfl, rfl⟩ := trodAll_nil h
    exact trodAll_mk0
  | t :: ts, _, _, _, hts, hlt, h => by
    obtain ⟨v, vs', d, ds', p, p', rfl, rfl, rfl, h0, h1⟩ := trodAll_cons h
    have ht := hts t List.mem_cons_self
    exact trodAll_cons_mk (Below.trod hl ht.1 ht.2 h0 hb fun x hx => hlt x (List.mem_append_left _ hx))
      (args_keep hl hb (fun t' ht' => hts t' (List.mem_cons_of_mem _ ht')) (fun x hx => hlt x (List.mem_append_right _ hx)) h1)

/-- A law that returns true, over a world of which nothing old has turned, meets what its row asks at the end. -/
theorem law_post {H : Type} {enc : TypeId × Value → H} {P : Program} (hl : laidOutB P = true) {fn : Func} {s : ChangeSpec} {W W' : World} {args : Array Value} {ds gs : List (DataW H)} {before : List MemPlace} {tb : TypeId}
    (hW : DataW.Whole enc P fn.params.toList s.vars false W args.toList ds gs before)
    (hres : (s.fn H (ds ++ gs)).results = [.lit (.bool true)]) (hargs : (s.fn H (ds ++ gs)).args = ds) (hvars : (s.fn H (ds ++ gs)).vars = gs)
    (hrt : fn.resultTypes = #[tb]) (htb : P.underlying tb = some .bool) (hts : ∀ t ∈ fn.params.toList, P.readableRec t = true ∧ t < P.types.size) (hvr : varsRowed P s.vars = true)
    (hb : Below W.heap.size W W') : s.post enc P fn false true false false W args (.bool true) W' := by
  have hW' := hW
  obtain ⟨p, q, hA, hV, rfl, _, _⟩ := hW
  have hlt : ∀ x ∈ p ++ q, x.block < W.heap.size := fun x hx => by simpa using hW'.lt x hx
  refine ⟨ds, gs, p ++ q, [], p, q, hW', ?_, ?_, ?_, hb.frame _, fun h => by cases h⟩
  · rw [hres, hrt]
    exact trodAll_mk1 (shut_bool htb _)
  · rw [hargs]
    exact args_keep hl hb hts (fun x hx => hlt x (List.mem_append_left _ hx)) hA
  · rw [hvars]
    exact Below.trodVars hl hb hvr hV

/-- A slice at A of n elements reads as these cells ('size' cells an element), which lie below block B. -/
def Rd (w : World) (B size : Nat) (A : Option Addr) (n : Nat) (xs : List Value) : Prop :=
  xs.length = n * size ∧ (0 < n → ∃ b o, A = some ⟨b, o, none⟩ ∧ b < B ∧ ∀ j u, xs[j]? = some u → w.cell? ⟨b, o + j, none⟩ = some u)

section
variable {w w' : World} {B B' size n : Nat} {A : Option Addr} {xs : List Value}
theorem Rd.keep (h : Rd w B size A n xs) (hk : ∀ p : Addr, p.block < B → w'.cell? p = w.cell? p) : Rd w' B size A n xs :=
  ⟨h.1, fun hn => by
    obtain ⟨b, o, e, hb, hc⟩ := h.2 hn
    exact ⟨b, o, e, hb, fun j u hu => (hk _ hb).trans (hc j u hu)⟩⟩
theorem Rd.on (h : Rd w B size A n xs) (hb : Below B w w') : Rd w' B size A n xs := h.keep fun _ hp => hb.cell hp
theorem Rd.more (h : Rd w B size A n xs) (hB : B ≤ B') : Rd w B' size A n xs :=
  ⟨h.1, fun hn => by
    obtain ⟨b, o, e, hb, hc⟩ := h.2 hn
    exact ⟨b, o, e, by omega, hc⟩⟩
theorem Rd.next (h : Rd w w.heap.size size A n xs) (hb : Below w.heap.size w w') : Rd w' w'.heap.size size A n xs := (h.on hb).more hb.size
theorem Rd.drew (h : Rd w B size A n xs) : Rd w.drew B size A n xs := h
theorem Rd.alloc (h : Rd w B size A n xs) (hB : B ≤ w.heap.size) (o : Obj) : Rd (w.alloc o) B size A n xs := h.keep fun p hp => World.cell?_alloc_lt w o p (by omega)
end

/-- Cells in a block of their own read as a slice. -/
theorem Rd.blk {w : World} {b : Nat} {t : TypeId} {l : List Value} {size m : Nat} (h : Blk w b t l.toArray) (hm : l.length = m * size) : Rd w w.heap.size size (some ⟨b, 0, none⟩) m l :=
  ⟨hm, fun _ => ⟨b, 0, rfl, h.lt, fun j u hu => by rw [h.cell, Nat.zero_add]; simpa using hu⟩⟩

theorem Rd.new (w : World) (t : TypeId) (l : List Value) {b size m : Nat} (hb : b = w.heap.size) (hm : l.length = m * size) : Rd (w.alloc (.cells l.toArray t)) (w.alloc (.cells l.toArray t)).heap.size size (some ⟨b, 0, none⟩) m l := by
  subst hb
  exact Rd.blk (Blk.new _ _ _) hm

/-- A slice's length. -/
def lenOf : Value → Nat
  | .slice _ n _ => n
  | _ => 0

section
variable {P : Program} {w : World}
end

theorem ints_one (k : IntKind) (zs : List Int) : ∀ u ∈ zs.map (Value.int k), u.oneCell' = true := ints_oneCell k zs

section
variable {H : Type} {enc : TypeId × Value → H} {P : Program} {W : World} {b0 : Nat} {r : Reach} {t e : TypeId} {v : Value} {d : DataW H} {p : List MemPlace}

end

/-- Of what was there block p alone may have turned. -/
def Only (p : Nat) (w w' : World) : Prop := w.grownBy w' (some p)
section
variable {p : Nat} {w w' w'' : World}
theorem Only.refl (p : Nat) (w : World) : Only p w w := World.grownBy.refl w _
theorem Only.trans (h : Only p w w') (k : Only p w' w'') : Only p w w'' :=
  ⟨k.os.trans h.os, k.tape.trans h.tape, k.output.trans h.output, Nat.le_trans h.size k.size, fun j hj hne => (k.block j (Nat.lt_of_lt_of_le hj h.size) hne).trans (h.block j hj hne)⟩
theorem Only.setCell (w : World) (p i : Nat) (u : Value) : Only p w (w.setCell ⟨p, i, none⟩ u) :=
  ⟨rfl, rfl, rfl, by simp [World.setCell], fun k _ hk => Below.heap_setCell _ _ _ _ (by intro e; exact hk (by rw [e]))⟩
theorem Only.below {B : Nat} {W0 : World} (h : Only p w w') (hb : Below B W0 w) (hB : B ≤ p) (hs : B ≤ w.heap.size) : Below B W0 w' :=
  hb.grown h hs fun k hk => by injection hk with hk; omega
theorem Blk.only {b : Nat} {t : TypeId} {cs : Array Value} (h : Blk w b t cs) (ho : Only p w w') (hne : b ≠ p) : Blk w' b t cs := h.grown ho (by intro e; injection e with e; exact hne e)
end
end Go.Proofs.Ytdhgmifgjaedbaa.Base


/- Arguments that are lists of texts: what is read of them. No condition. -/
namespace Go.Proofs.Ytdhgmifgjaedbaa
set_option linter.unusedVariables false
set_option linter.unusedSimpArgs false
open Go.ChangeShapes Go.WideShapes Go.ChangeAt Go.RowKit Base Px
theorem rd_param {w : World} {sz n b o : Nat} {xs : List Value} (hr : Rd w w.heap.size sz (some ⟨b, o, none⟩) n xs) (hn : 0 < n) : b < w.heap.size ∧ ∀ j u, xs[j]? = some u → rdM w none b (o + j) = some u := by
  obtain ⟨b', o', e, hb, hc⟩ := hr.2 hn
  have e := Option.some.inj e
  injection e with e1 e2 e3
  subst e1; subst e2
  exact ⟨hb, fun j u hj => by unfold rdM; simp only; rw [if_pos hb]; exact hc j u hj⟩
theorem rd_param_addr {w : World} {sz n : Nat} {A : Option Addr} {xs : List Value} (hr : Rd w w.heap.size sz A n xs) (hn : 0 < n) : ∃ b o, A = some ⟨b, o, none⟩ := by
  obtain ⟨b, o, h, _⟩ := hr.2 hn; exact ⟨b, o, h⟩
end Go.Proofs.Ytdhgmifgjaedbaa


/- Arguments that are lists of structs: one Lean value for each. No condition. -/
namespace Go.Proofs.Ytdhgmifgjaedbaa
set_option linter.unusedVariables false
set_option linter.unusedSimpArgs false
open Go.ChangeShapes Go.WideShapes Go.ChangeAt Go.RowKit Go.Deep Base Px
/-- What came in, as cells that are read. -/
theorem Rd.rv {w : World} {n : Nat} {A : Option Addr} {xs : List Value} (hr : Rd w w.heap.size 1 A n xs) (h : PH) : ∀ (j : Nat) (u : Value), xs[j]? = some u → ∃ b o, A = some ⟨b, o, none⟩ ∧ b < w.heap.size ∧ rdM w none b (o + j) = some u := fun j u e => by
  have hn : 0 < n := by
    have h1 := (List.getElem?_eq_some_iff.1 e).1
    have h2 := hr.1
    omega
  obtain ⟨b, o, rfl⟩ := rd_param_addr hr hn
  obtain ⟨hb, hrd⟩ := rd_param hr hn
  exact ⟨b, o, rfl, hb, hrd j u e⟩
end Go.Proofs.Ytdhgmifgjaedbaa


/- The laws' arguments: claims and writes that come in. No condition. -/
namespace Go.Proofs.Ytdhgmifgjaedbaa
set_option linter.unusedVariables false
set_option linter.unusedSimpArgs false
open Go.ChangeShapes Go.WideShapes Go.ChangeAt Go.RowKit Base Px Wr
set_option maxRecDepth 20000
theorem bytesW_len {c : Wt} (h : rightW c = true) : (bytesW c).length ≤ 1000 := by
  obtain ⟨r1, r2, ⟨r3, r4⟩, r5, ⟨r6, r7⟩, r8, r9, r10, r11, r12, _, ⟨r13, r14⟩⟩ := rightW_iff.1 h
  unfold bytesW
  have h1 := numB_len9 (n := c.r.toNat) (by omega)
  have h2 := numB_len9 (n := c.n.toNat) (by omega)
  have h3 := numB_len9 (n := c.t.toNat) (by omega)
  have h4 := vecB_len r8
  have h5 := textB_len (y := c.s) r10 (by omega)
  have h6 := textB_len (y := c.k) r11 (by omega)
  have h7 := flagB_len c.g
  have h8 := textB_len (y := c.v) r12 (by omega)
  have h9 := numB_len9 (n := c.l.toNat) (by omega)
  simp only [List.length_append]; omega
section
variable {H : Type} {enc : TypeId × Value → H} {w : World} {b0 : Nat} {r : Reach} {v : Value} {d : DataW H} {p : List MemPlace}
end
end Go.Proofs.Ytdhgmifgjaedbaa


/- Bytes of claims are no other's beginning; a list of writes. No condition. -/
namespace Go.Proofs.Ytdhgmifgjaedbaa
set_option linter.unusedVariables false
set_option linter.unusedSimpArgs false
open Go.RowKit Px Wr
theorem info_wt : (Try.prog.info? 52).map (fun i => (i.zero, i.size, i.bytes)) = some (some (.agg #[.int .i64 0, .int .i64 0, .int .i64 0, .int .i64 0, .slice none 0 0, .string ⟨#[]⟩, .string ⟨#[]⟩, .string ⟨#[]⟩, .bool false, .int .i64 0]), 10, 120) := by kernel_rfl
theorem el_wt : El Try.prog 22 52 (.agg #[.int .i64 0, .int .i64 0, .int .i64 0, .int .i64 0, .slice none 0 0, .string ⟨#[]⟩, .string ⟨#[]⟩, .string ⟨#[]⟩, .bool false, .int .i64 0]) 10 120 := ⟨Try.underlying22, info_parts info_wt, rfl, by decide⟩
theorem ChC.more {m1 m2 m3 : Int} {n : Nat} {s x1 x2 : List UInt8} {x3 x4 x5 : Nat} {x6 : List Int} {s1 s2 s3 s4 s5 s6 : St} (c : ChC m1 m2 m3 n s x1 x2 x3 x4 x5 x6 s1 s2 s3 s4 s5 s6) (h1 : 64 ≤ m1) (h2 : 32 ≤ m2) (h3 : 1099511627776 ≤ m3) {d : Cl} (hr : rightC d = true) {r : List UInt8} (hs : s = bytesC d ++ r) : s6 = .ok r := by
  obtain ⟨r1, r2, r3, r4, ⟨r5, r6⟩, ⟨r7, r8⟩, ⟨r9, r10⟩, r11⟩ := rightC_iff.1 hr
  have e1 := c.e1
  rw [hs] at e1
  unfold bytesC at e1
  simp only [List.append_assoc] at e1
  rw [txtS_fwd (by omega) (by omega)] at e1
  injection e1 with a1 b1
  have e2 := c.e2
  rw [b1, txtS_fwd (by omega) (by omega)] at e2
  injection e2 with a2 b2
  have e3 := c.e3
  rw [b2, numS_fwd r5 (by omega) (by omega)] at e3
  injection e3 with a3 b3
  have e4 := c.e4
  rw [b3, numS_fwd r7 (by omega) (by omega)] at e4
  injection e4 with a4 b4
  have e5 := c.e5
  rw [b4, numS_fwd r9 (by omega) (by omega)] at e5
  injection e5 with a5 b5
  have e6 := c.e6
  rw [b5, vecS_fwd r11] at e6
  injection e6 with a6 b6
end Go.Proofs.Ytdhgmifgjaedbaa


/- The laws' first items: few. No condition. -/
namespace Go.Proofs.Ytdhgmifgjaedbaa
set_option linter.unusedVariables false
set_option linter.unusedSimpArgs false
open Go.RowKit Px Wr
/-- An item that came in, with where its vector lies. -/
abbrev Ip := It × Option Addr × Nat
def Good (w0 : World) (h : PH) (p : Ip) : Prop := p.1.N ≤ 9223372036854775807 ∧ p.1.V.length ≤ p.2.2 ∧ Rv w0 h p.2.1 (ints p.1.V)
theorem Good.more {w0 : World} {h h' : PH} {p : Ip} (g : Good w0 h p) (l : PH.Le h h') : Good w0 h' p := ⟨g.1, g.2.1, g.2.2.more l⟩
end Go.Proofs.Ytdhgmifgjaedbaa


/- A call may be taken to begin behind all that the world before holds. No condition. -/
namespace Go.Proofs.Ytdhgmifgjaedbaa.Px
set_option linter.unusedVariables false
set_option linter.unusedSimpArgs false
open Go.RowKit
theorem PCalls_upL {P : Program} {w0 : World} {g : FuncId} {args : List Value} {h : PH} {R : Value → PH → Prop} (hc : ∀ q : PH, PH.Le h q → Low w0 q → w0.heap.size ≤ q.top → PCalls P w0 g args q R) : PCalls P w0 g args h R := fun w s => by
  have hq : PH.Le h ⟨max h.top w0.heap.size, h.m, fun b k e => by have := h.lt b k e; omega⟩ := ⟨by simp only; omega, fun _ _ e => e⟩
  have sq : Sim w0 ⟨max h.top w0.heap.size, h.m, fun b k e => by have := h.lt b k e; omega⟩ w := ⟨s.below, by have := s.top; have := s.base; simp only; omega, s.sat⟩
  exact hc _ hq (low_of sq) (by simp only; omega) w sq
theorem PCalls.low {P : Program} {w0 : World} {g : FuncId} {args : List Value} {h : PH} {R : Value → PH → Prop} (hc : PCalls P w0 g args h R) : PCalls P w0 g args h fun v h' => R v h' ∧ Low w0 h' := fun w s => by
  rcases hc w s with ⟨h1, h2⟩ | ⟨v, w', h', h1, h2, h3⟩
  · exact .inl ⟨h1, h2.mono fun e w' ⟨v, h', e1, e2, e3⟩ => ⟨v, h', e1, ⟨e2, low_of e3⟩, e3⟩⟩
  · exact .inr ⟨v, w', h', h1, ⟨h2, low_of h3⟩, h3⟩
theorem Low.new {w0 : World} {h : PH} (l : Low w0 h) {b : Nat} (hb : w0.heap.size ≤ b) (k : Bk) : Low w0 (h.new b k) := fun x hx => by
  rw [PH.new_m, if_neg (by omega)]; exact l x hx
end Go.Proofs.Ytdhgmifgjaedbaa.Px


/- Maps in the logic: a block that is a map is known by its entries. No condition. -/
namespace Go.Proofs.Ytdhgmifgjaedbaa.Px
set_option linter.unusedVariables false
set_option linter.unusedSimpArgs false
open Go.RowKit Go.Maps
def entsOf (es : Array MapEntry) : List (Value × Value) := es.toList.map fun e => (e.key, e.val)
/-- Block b is a map of these entries. -/
def Mp (h : PH) (b : Nat) (D : List (Value × Value)) : Prop := ∃ es clk, h.m b = some (mapBk es clk) ∧ entsOf es = D
theorem Mp.more {h h' : PH} {b : Nat} {D : List (Value × Value)} (m : Mp h b D) (l : PH.Le h h') : Mp h' b D := by
  obtain ⟨es, clk, h1, h2⟩ := m
  exact ⟨es, clk, l.m _ _ h1, h2⟩
theorem MSat {w : World} {b : Nat} {es : Array MapEntry} {clk : Nat} (h : w.heap[b]? = some (.map es clk)) : BSat w b (mapBk es clk) := ⟨rfl, h⟩
theorem Mp.heap {w0 w : World} {h : PH} {b : Nat} {es : Array MapEntry} {clk : Nat} (hm : h.m b = some (mapBk es clk)) (s : Sim w0 h w) : w.heap[b]? = some (.map es clk) := by
  have := (s.sat b _ hm).2
  unfold BSat mapBk at this
  exact this.2
theorem keys_uniq : ∀ {D : List (Value × Value)} {k a b : Value}, (D.Pairwise fun a b => a.1 ≠ b.1) → (k, a) ∈ D → (k, b) ∈ D → a = b
  | [], _, _, _, _, h, _ => by cases h
  | p :: D, k, a, b, hp, h1, h2 => by
    rw [List.pairwise_cons] at hp
    rcases List.mem_cons.1 h1 with e1 | h1 <;> rcases List.mem_cons.1 h2 with e2 | h2
    · rw [← e1] at e2; exact (Prod.mk.inj e2).2.symm
    · exact absurd (by rw [← e1]) (hp.1 _ h2)
    · exact absurd (by rw [← e2]) (hp.1 _ h1)
    · exact keys_uniq hp.2 h1 h2
section
variable {P : Program} {w0 : World} {h : PH}
/-- A map's key is looked up among keys that are all different. -/
theorem Rds_lookup {t kt et : TypeId} {b : Nat} {D : List (Value × Value)} {k z : Value} {l : Lit} {K : Value → Prop} (hu : P.underlying t = some (.map kt et)) (hK : Keyed P kt) (hk : keyOf P kt k = some l)
    (hall : ∀ p ∈ D, ∃ l, keyOf P kt p.1 = some l) (hn : D.Pairwise fun a b => a.1 ≠ b.1) (hz : ∀ w, (zeroValue et).run P w = .ok z w) (hM : Mp h b D)
    (h0 : (∀ p ∈ D, p.1 ≠ k) → K z) (h1 : ∀ v, (k, v) ∈ D → K v) : Rds P w0 h (Instr.lookup t (.map (some b)) k false) K := by
  obtain ⟨es, clk, hm, he⟩ := hM
  have hes : ∀ e ∈ es.toList, ∃ l, keyOf P kt e.key = some l := fun e he' => hall (e.key, e.val) (by rw [← he]; exact List.mem_map.2 ⟨e, he', rfl⟩)
  by_cases hp : ∃ v, (k, v) ∈ D
  · obtain ⟨v, hv⟩ := hp
    refine ⟨v, fun w s => ?_, h1 v hv⟩
    have hh := Mp.heap hm s
    rcases hK.find w hk es.toList hes with ⟨_, h3⟩ | ⟨j, e, h3, h4, h5⟩
    · obtain ⟨e, he1, he2⟩ := List.mem_map.1 (show (k, v) ∈ es.toList.map (fun e => (e.key, e.val)) by rw [← he] at hv; exact hv)
      exact absurd (congrArg Prod.fst he2) (h3 e he1)
    · have hev : e.val = v := by
        have he1 : (k, e.val) ∈ D := by rw [← he, ← h5]; exact List.mem_map.2 ⟨e, List.mem_of_getElem? h4, rfl⟩
        exact keys_uniq hn he1 hv
      simp [Instr.lookup, run_underlying hu, MapKept.run_getObj_map hh, hK.check w _ hk, h3, hev, Result.andThen]
  · refine ⟨z, fun w s => ?_, h0 fun p hp' e => hp ⟨p.2, by rw [← e]; exact hp'⟩⟩
    have hh := Mp.heap hm s
    rcases hK.find w hk es.toList hes with ⟨h3, _⟩ | ⟨j, e, h3, h4, h5⟩
    · simp [Instr.lookup, run_underlying hu, MapKept.run_getObj_map hh, hK.check w _ hk, h3, hz, Result.andThen]
    · exact absurd ⟨e.val, by rw [← he, ← h5]; exact List.mem_map.2 ⟨e, List.mem_of_getElem? h4, rfl⟩⟩ hp
theorem Does_makeMap {t : TypeId} {K : Value → PH → Prop} (hk : ∀ b, h.top ≤ b → K (.map (some b)) (h.new b (mapBk #[] 0))) : Does P w0 h (Instr.makeMap t none) K := fun w s => by
  refine ⟨_, _, h.new w.heap.size (mapBk #[] 0), run_makeMap t w, hk _ s.top, ?_⟩
  exact (s.step (grownBy_alloc w _ none) (fun _ e => by cases e)).put s.base (MSat (heap_alloc_new w _))
theorem Mp.made (h : PH) (b : Nat) : Mp (h.new b (mapBk #[] 0)) b [] := ⟨#[], 0, by rw [PH.new_m, if_pos rfl], rfl⟩
/-- An entry that is new. -/
theorem Does_update {t kt et : TypeId} {b : Nat} {D : List (Value × Value)} {k v : Value} {l : Lit} {K : Value → PH → Prop} (hu : P.underlying t = some (.map kt et)) (hK : Keyed P kt) (hk : keyOf P kt k = some l)
    (hall : ∀ p ∈ D, ∃ l, keyOf P kt p.1 = some l) (hM : Mp h b D) (hne : ∀ p ∈ D, p.1 ≠ k)
    (hq : ∀ h', h'.top = h.top → Mp h' b (D ++ [(k, v)]) → (∀ x, x ≠ b → h'.m x = h.m x) → K undef h') : Does P w0 h (updateK t (.map (some b)) k v) K := fun w s => by
  obtain ⟨es, clk, hm, he⟩ := hM
  have hes : ∀ e ∈ es.toList, ∃ l, keyOf P kt e.key = some l := fun e he' => hall (e.key, e.val) (by rw [← he]; exact List.mem_map.2 ⟨e, he', rfl⟩)
  have hh := Mp.heap hm s
  have hb := (s.sat b _ hm).1
  have hlt := (Array.getElem?_eq_some_iff.1 hh).1
  rcases hK.find w hk es.toList hes with ⟨h3, _⟩ | ⟨j, e, h3, h4, h5⟩
  · refine ⟨undef, { w with heap := w.heap.setIfInBounds b (.map (es.push ⟨k, v, clk⟩) (clk + 1)) }, (h.del b).new b (mapBk (es.push ⟨k, v, clk⟩) (clk + 1)), ?_, hq _ ?_ ⟨_, _, by rw [PH.new_m, if_pos rfl], ?_⟩ fun x hx => by rw [PH.new_m, if_neg hx, PH.del_m, if_neg hx], ?_⟩
    · simp [updateK, Instr.mapUpdate, run_underlying hu, MapKept.run_getObj_map hh, hK.check w _ hk, h3, MapKept.run_setObj_map _ hh, Result.andThen]
    · have := h.lt b _ hm
      simp only [PH.new_top, PH.del_top]; omega
    · simp [entsOf, ← he]
    · have hg : w.grownBy { w with heap := w.heap.setIfInBounds b (.map (es.push ⟨k, v, clk⟩) (clk + 1)) } (some b) := ⟨rfl, rfl, rfl, by simp, fun x hx hne' => by
        simp only
        rw [Array.getElem?_setIfInBounds_ne (fun e => hne' (by rw [e]))]⟩
      refine ((s.del b).step hg (fun x e => ?_)).put hb (MSat ?_)
      · injection e with e; subst e; exact ⟨hb, by simp [PH.del_m]⟩
      · simp only
        rw [Array.getElem?_setIfInBounds_self_of_lt hlt]
  · exact absurd h5 (hne (e.key, e.val) (by rw [← he]; exact List.mem_map.2 ⟨e, List.mem_of_getElem? h4, rfl⟩))
theorem Rds_lenM {t kt et ty : TypeId} {b : Nat} {D : List (Value × Value)} {K : Value → Prop} (hu : P.underlying t = some (.map kt et)) (hM : Mp h b D) (hk : K (.int .i64 D.length)) : Rds P w0 h (Builtin.len_ #[t] ty [Value.map (some b)].toArray) K := by
  obtain ⟨es, clk, hm, he⟩ := hM
  refine ⟨_, fun w s => ?_, hk⟩
  have hh := Mp.heap hm s
  have hl : D.length = es.size := by rw [← he]; simp [entsOf]
  simp [Builtin.len_, run_underlying hu, MapKept.run_getObj_map hh, Result.andThen, goInt, hl]
end
end Go.Proofs.Ytdhgmifgjaedbaa.Px


/- Messages, their rows in memory, and the order of texts: plain facts. No condition. -/
namespace Go.Proofs.Ytdhgmifgjaedbaa
set_option linter.unusedVariables false
set_option linter.unusedSimpArgs false
open Go.RowKit Px Wr
/-! the order of texts -/
def ltB (a b : List UInt8) : Bool := Op.bytesLess a b
theorem ltB_nil (b : UInt8) (l : List UInt8) : ltB [] (b :: l) = true := rfl
theorem ltB_no (l : List UInt8) : ltB l [] = false := by cases l <;> rfl
theorem ltB_cons (a b : UInt8) (l m : List UInt8) : ltB (a :: l) (b :: m) = (decide (a < b) || (a == b && ltB l m)) := rfl
theorem ltB_irr : ∀ l : List UInt8, ltB l l = false
  | [] => rfl
  | a :: l => by rw [ltB_cons, ltB_irr l]; simp
theorem ltB_trans : ∀ {a b c : List UInt8}, ltB a b = true → ltB b c = true → ltB a c = true
  | _, [], _, h, _ => by rw [ltB_no] at h; cases h
  | _, _ :: _, [], _, h => by rw [ltB_no] at h; cases h
  | [], _ :: _, _ :: _, _, _ => rfl
  | a :: l, b :: m, c :: n, h1, h2 => by
    rw [ltB_cons] at h1 h2 ⊢
    simp only [Bool.or_eq_true, decide_eq_true_eq, Bool.and_eq_true, beq_iff_eq] at h1 h2 ⊢
    rcases h1 with h1 | ⟨rfl, h1⟩ <;> rcases h2 with h2 | ⟨rfl, h2⟩
    · exact .inl (UInt8.lt_trans h1 h2)
    · exact .inl h1
    · exact .inl h2
    · exact .inr ⟨rfl, ltB_trans h1 h2⟩
theorem ltB_total : ∀ {a b : List UInt8}, ltB a b = false → a ≠ b → ltB b a = true
  | [], [], _, h => absurd rfl h
  | [], _ :: _, h, _ => by rw [ltB_nil] at h; cases h
  | _ :: _, [], _, _ => rfl
  | a :: l, b :: m, h1, h2 => by
    rw [ltB_cons] at h1 ⊢
    simp only [Bool.or_eq_false_iff, decide_eq_false_iff_not, Bool.and_eq_false_iff, beq_eq_false_iff_ne] at h1
    simp only [Bool.or_eq_true, decide_eq_true_eq, Bool.and_eq_true, beq_iff_eq]
    by_cases e : a = b
    · subst e
      rcases h1.2 with h | h
      · exact absurd rfl h
      · exact .inr ⟨rfl, ltB_total h fun q => h2 (by rw [q])⟩
    · left
      rcases UInt8.lt_or_lt_of_ne e with h | h
      · exact absurd h h1.1
      · exact h
def leB (a b : List UInt8) : Bool := ltB a b || decide (a = b)
theorem leB_not {a b : List UInt8} : leB a b = false ↔ ltB b a = true := by
  unfold leB
  simp only [Bool.or_eq_false_iff, decide_eq_false_iff_not]
  constructor
  · exact fun ⟨h1, h2⟩ => ltB_total h1 h2
  · intro h
    refine ⟨?_, fun e => by rw [e, ltB_irr] at h; cases h⟩
    cases h1 : ltB a b with
    | false => rfl
    | true => have := ltB_trans h h1; rw [ltB_irr] at this; cases this
theorem y_leqT {P : Program} {t : TypeId} {x y : Operand} {K : Value → Prop} (a b : List UInt8) : Yld P (binS .leq t x y (str a) (str b)) K = K (.bool (leB a b)) := Yld_eq fun w => by
  rw [binS_plain (by simp) (by simp)]
  have e1 : (ByteArray.mk a.toArray).toList = a := by rw [ByteArray.toList_eq]
  have e2 : (ByteArray.mk b.toArray).toList = b := by rw [ByteArray.toList_eq]
  show (Op.stringOp .leq ⟨a.toArray⟩ ⟨b.toArray⟩).run P w = _
  simp only [Op.stringOp, e1, e2, Sem.run_pure]
  congr 2
  unfold leB ltB
  congr 1
  by_cases e : a = b <;> simp [e]
/-! rows in memory -/
section
variable {α : Type} {g : α → List Value} {m : Nat} {w0 : World} {h : PH} {b o : Nat} {L : List α}
theorem Px.Rv.part_ (hg : ∀ a, (g a).length = m) (h0 : 0 < m) (r : Rv w0 h (some ⟨b, o, none⟩) (L.flatMap g)) {i : Nat} {x : α} (hx : L[i]? = some x) : Rv w0 h (some ⟨b, o + i * m, none⟩) (g x) := fun j u eu => by
  obtain ⟨h1, h2⟩ := flat_chunk g m hg L i x hx
  have hj : j < m := by rw [← hg x]; exact (List.getElem?_eq_some_iff.1 eu).1
  have e2 : (L.flatMap g)[i * m + j]? = some u := by rw [← h1, List.getElem?_take_of_lt hj, List.getElem?_drop] at eu; exact eu
  obtain ⟨b', o', h3, h4⟩ := r (i * m + j) u e2
  injection h3 with h3
  injection h3 with h3 h5
  subst h3; subst h5
  exact ⟨b, o + i * m, rfl, by rw [Nat.add_assoc]; exact h4⟩
theorem Px.Rv.addr_ (hg : ∀ a, (g a).length = m) (h0 : 0 < m) {A : Option Addr} (r : Rv w0 h A (L.flatMap g)) {i : Nat} {x : α} (hx : L[i]? = some x) : ∃ b o, A = some ⟨b, o, none⟩ :=
  r.addr (by have := (flat_chunk g m hg L i x hx).2; omega)
theorem Px.Rv.chunk (hg : ∀ a, (g a).length = m) (h0 : 0 < m) (r : Rv w0 h (some ⟨b, o, none⟩) (L.flatMap g)) (hl : Low w0 h) {i : Nat} {x : α} (hx : L[i]? = some x) : Px.rdN w0 h ⟨b, o + i * m, none⟩ m = some (g x) :=
  (r.part_ hg h0 hx).rdN hl (hg x) h0
theorem Px.Rv.chunkM (hg : ∀ a, (g a).length = m) (h0 : 0 < m) (r : Rv w0 h (some ⟨b, o, none⟩) (L.flatMap g)) (hl : Low w0 h) {i : Nat} {x : α} (hx : L[i]? = some x) {j : Nat} {u : Value} (hu : (g x)[j]? = some u) : rdM w0 (h.m b) b (o + i * m + j) = some u :=
  (r.part_ hg h0 hx).get hl hu
end
/-- An epoch; a message. -/
structure Ep where
  u : List UInt8
  n : Int
deriving DecidableEq
structure Ms where
  k : Int
  w : List Wt
  v : List Int
  c : Int
  t : Int
  e : List Ep
  x : Int
def epL (p : Ep) : List Value := [str p.u, .int .i64 p.n]
theorem epL_length (p : Ep) : (epL p).length = 2 := rfl
theorem epL_one (p : Ep) : allOne (epL p) := allOne_of _ rfl
/-- A write, where its vector lies, and how much room it has there. -/
abbrev Wp := Wt × Option Addr × Nat
def wpL (p : Wp) : List Value := wtL p.1 p.2.1 p.2.2
theorem wpL_length (p : Wp) : (wpL p).length = 10 := rfl
theorem wpL_one (p : Wp) : allOne (wpL p) := allOne_of _ rfl
def GoodW (w0 : World) (h : PH) (p : Wp) : Prop := p.1.d.length ≤ p.2.2 ∧ Rv w0 h p.2.1 (ints p.1.d)
theorem GoodW.more {w0 : World} {h h' : PH} {p : Wp} (g : GoodW w0 h p) (l : PH.Le h h') : GoodW w0 h' p := ⟨g.1, g.2.more l⟩
/-- Where a message's rows lie, and how much room they have. -/
structure Mp7 where
  wp : List Wp
  A : Option Addr
  B : Option Addr
  C : Option Addr
  a : Nat
  b : Nat
  c : Nat
def msL (m : Ms) (p : Mp7) : List Value := [.int .i64 m.k, .slice p.A m.w.length p.a, .slice p.B m.v.length p.b, .int .i64 m.c, .int .i64 m.t, .slice p.C m.e.length p.c, .int .i64 m.x]
theorem msL_one (m : Ms) (p : Mp7) : allOne (msL m p) := allOne_of _ rfl
structure MsR (w0 : World) (h : PH) (m : Ms) (p : Mp7) : Prop where
  ws : p.wp.map (·.1) = m.w
  good : ∀ q ∈ p.wp, GoodW w0 h q
  rw_ : Rv w0 h p.A (p.wp.flatMap wpL)
  rv : Rv w0 h p.B (ints m.v)
  re : Rv w0 h p.C (m.e.flatMap epL)
  la : m.w.length ≤ p.a
  lb : m.v.length ≤ p.b
  lc : m.e.length ≤ p.c
theorem MsR.more {w0 : World} {h h' : PH} {m : Ms} {p : Mp7} (r : MsR w0 h m p) (l : PH.Le h h') : MsR w0 h' m p :=
  ⟨r.ws, fun q hq => (r.good q hq).more l, r.rw_.more l, r.rv.more l, r.re.more l, r.la, r.lb, r.lc⟩
/-- No more of it than is played. -/
structure Fits (m : Ms) : Prop where
  w : m.w.length ≤ 100
  v : m.v.length ≤ 1000
  e : m.e.length ≤ 1000
  d : ∀ x ∈ m.w, x.d.length ≤ 1000 ∧ x.s.length ≤ 100000 ∧ x.k.length ≤ 100000 ∧ x.v.length ≤ 100000
  u : ∀ x ∈ m.e, x.u.length ≤ 100000
/-! what is right -/
def isN (n : Int) : Bool := decide (n ≥ 0) && decide (n ≤ 1099511627776)
def rightWs (L : List Wt) : Bool := decide (1 ≤ L.length) && decide (L.length ≤ 8) && L.all fun x => rightW x && decide (some x.r = L.head?.map (·.r))
def rightEp (p : Ep) : Bool := decide (1 ≤ p.u.length) && decide (p.u.length ≤ 32) && decide (1 ≤ p.n) && decide (p.n ≤ 1099511627776)
def rises : List Ep → Bool
  | [] => true
  | [_] => true
  | a :: b :: l => !leB b.u a.u && rises (b :: l)
def rightE (L : List Ep) : Bool := decide (L.length ≤ 64) && L.all rightEp && rises L
def rightM (m : Ms) : Bool :=
  if m.k = 1 then rightWs m.w && decide (m.v = []) && decide (m.c = 0) && decide (m.t = 0) && decide (m.e = []) && decide (m.x = 0)
  else if m.k = 2 then decide (m.w = []) && trim m.v 1099511627776 && isN m.c && decide (m.t = 0) && decide (m.e = []) && decide (m.x = 0)
  else if m.k = 3 then decide (m.w = []) && decide (m.v = []) && decide (m.c = 0) && isN m.t && decide (m.e = []) && decide (m.x = 0)
  else if m.k = 4 then decide (m.w = []) && decide (m.v = []) && decide (m.c = 0) && isN m.t && rightE m.e && isN m.x
  else false
end Go.Proofs.Ytdhgmifgjaedbaa

