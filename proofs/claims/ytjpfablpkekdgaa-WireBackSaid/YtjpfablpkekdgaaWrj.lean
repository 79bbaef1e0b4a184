/- Walks: DecodeWrite. No condition. -/
import Derived.Test.YtjpfablpkekdgaaWri
namespace Go.Proofs.Ytjpfablpkekdgaa
set_option linter.unusedVariables false
set_option linter.unusedSimpArgs false
open Go.RowKit Px Wr
theorem solo (w0 : World) (h : PH) (b lim : Nat) (ys rest : List Value) (hb : h.m b = some ⟨ys ++ rest, lim⟩) : ∃ hS : PH, hS.m b = some ⟨ys, lim⟩ ∧ ∀ (h' : PH) (rest' : List Value), h.top ≤ h'.top → h'.m b = some ⟨ys ++ rest', lim⟩ → PH.Sub w0 hS h' := by
  have hlt := h.lt _ _ hb
  refine ⟨⟨h.top, fun x => if x = b then some ⟨ys, lim⟩ else none, fun x k e => by
    by_cases hx : x = b
    · rw [hx]; exact hlt
    · rw [if_neg hx] at e; cases e⟩, by simp, fun h' rest' ht hm w s => ⟨s.below, Nat.le_trans ht s.top, fun x k e => ?_⟩⟩
  simp only at e
  by_cases hx : x = b
  · rw [if_pos hx] at e
    obtain rfl := Option.some.inj e
    subst hx
    obtain ⟨h1, cur, t, lo, hi, hc, g1, g2, g3, g4⟩ := s.sat x _ hm
    simp only at g1 g2 g3 g4
    refine ⟨h1, cur, t, lo, hi, hc, g1, g2, by simp only; simp only [List.length_append] at g3; omega, ?_⟩
    have h5 := congrArg (List.take ys.length) g4
    rw [List.take_take, List.take_left, List.length_append, Nat.min_eq_left (by omega)] at h5
    exact h5
  · rw [if_neg hx] at e; cases e
set_option maxRecDepth 20000 in
set_option maxHeartbeats 4000000 in
theorem decW_any (s : List UInt8) (hs : s.length ≤ 1000000000) (w0 : World) (h : PH) : PCalls Try.prog w0 30 [str s] h fun r h' => DEW w0 h' s r ∧ PH.Le h h' := by
  refine PCalls_body Try.func30 (by kernel_rfl) rfl _ Try.ntmps30 (by kernel_rfl) (by kernel_rfl) _ Try.results30 ?_
  simp -dsimp -implicitDefEqProofs (disch := first | omega | assumption | (simp only [Option.isSome_some, Qt0]; done) | (simp only [UInt64.reduceToNat, UInt32.reduceToNat, UInt8.reduceToNat, List.length_cons, List.length_nil, List.length_append, Int.toNat_natCast] <;> omega)) only [Nat.reduceLT, Nat.reduceLeDiff, Nat.reduceEqDiff, ↓reduceIte, beq_self_eq_true, List.getD_cons_zero, List.getD_cons_succ, Int.reduceLT, Int.reduceLE, Int.reduceToNat, Int.reduceEq, Int.reduceNe, Option.bind_some, List.map_cons, List.map_nil, List.zip_cons_cons, List.zip_nil_left, List.append_nil, List.nil_append, List.cons_append, List.length_cons, List.length_nil, Nat.reduceAdd, UInt8.reduceOfNat, UInt16.reduceOfNat, UInt32.reduceOfNat, UInt64.reduceOfNat, UInt64.reduceToNat, UInt32.reduceToNat, UInt16.reduceToNat, UInt8.reduceToNat, Int.reduceAdd, Int.reduceSub, Int.reduceMul, Nat.reduceMul, ne_eq, eq_self, Option.isNone_some, Option.isNone_none, List.length_set, List.length_replicate, List.getElem?_cons_zero, List.getElem?_cons_succ, Qp0, Qe0]
  refine fun rb hrb => ?_
  have hle := (PH.Le.refl h).new rb ⟨[.int .i64 0, .int .i64 0, .int .i64 0, .int .i64 0, .slice none 0 0, .string ⟨#[]⟩, .string ⟨#[]⟩, .string ⟨#[]⟩, .bool false, .int .i64 0], 10⟩ hrb
  have hm : (h.new rb ⟨[.int .i64 0, .int .i64 0, .int .i64 0, .int .i64 0, .slice none 0 0, .string ⟨#[]⟩, .string ⟨#[]⟩, .string ⟨#[]⟩, .bool false, .int .i64 0], 10⟩).m rb = some ⟨[.int .i64 0, .int .i64 0, .int .i64 0, .int .i64 0, .slice none 0 0, .string ⟨#[]⟩, .string ⟨#[]⟩, .string ⟨#[]⟩, .bool false, .int .i64 0], 10⟩ := by rw [PH.new_m, if_pos rfl]
  simp -dsimp -implicitDefEqProofs (disch := first | omega | assumption | (simp only [Option.isSome_some, Qt0]; done) | (simp only [UInt64.reduceToNat, UInt32.reduceToNat, UInt8.reduceToNat, List.length_cons, List.length_nil, List.length_append, Int.toNat_natCast] <;> omega)) only [Nat.reduceLT, Nat.reduceLeDiff, Nat.reduceEqDiff, ↓reduceIte, beq_self_eq_true, List.getD_cons_zero, List.getD_cons_succ, Int.reduceLT, Int.reduceLE, Int.reduceToNat, Int.reduceEq, Int.reduceNe, Option.bind_some, List.map_cons, List.map_nil, List.zip_cons_cons, List.zip_nil_left, List.append_nil, List.nil_append, List.cons_append, List.length_cons, List.length_nil, Nat.reduceAdd, UInt8.reduceOfNat, UInt16.reduceOfNat, UInt32.reduceOfNat, UInt64.reduceOfNat, UInt64.reduceToNat, UInt32.reduceToNat, UInt16.reduceToNat, UInt8.reduceToNat, Int.reduceAdd, Int.reduceSub, Int.reduceMul, Nat.reduceMul, ne_eq, eq_self, Option.isNone_some, Option.isNone_none, List.length_set, List.length_replicate, List.getElem?_cons_zero, List.getElem?_cons_succ, Qp0, Qe0]
  generalize h.new rb ⟨[.int .i64 0, .int .i64 0, .int .i64 0, .int .i64 0, .slice none 0 0, .string ⟨#[]⟩, .string ⟨#[]⟩, .string ⟨#[]⟩, .bool false, .int .i64 0], 10⟩ = h1 at *
  refine (read_any w0 h1 s).mono ?_
  rintro v q2 ⟨ib, rfl, hib, hl2, hi⟩
  have hibl := ib_lt hi
  have hne : rb ≠ ib := by have := h1.lt _ _ hm; omega
  have hib0 : h.top ≤ ib := Nat.le_trans hle.top hib
  have hm := hl2.m _ _ hm
  have hle2 := hle.trans hl2
  have hcc := Chg.refl (· = ib) q2
  simp -dsimp -implicitDefEqProofs (disch := first | omega | assumption | (simp only [Option.isSome_some, Qt0]; done) | (simp only [UInt64.reduceToNat, UInt32.reduceToNat, UInt8.reduceToNat, List.length_cons, List.length_nil, List.length_append, Int.toNat_natCast] <;> omega)) only [Nat.reduceLT, Nat.reduceLeDiff, Nat.reduceEqDiff, ↓reduceIte, beq_self_eq_true, List.getD_cons_zero, List.getD_cons_succ, Int.reduceLT, Int.reduceLE, Int.reduceToNat, Int.reduceEq, Int.reduceNe, Option.bind_some, List.map_cons, List.map_nil, List.zip_cons_cons, List.zip_nil_left, List.append_nil, List.nil_append, List.cons_append, List.length_cons, List.length_nil, Nat.reduceAdd, UInt8.reduceOfNat, UInt16.reduceOfNat, UInt32.reduceOfNat, UInt64.reduceOfNat, UInt64.reduceToNat, UInt32.reduceToNat, UInt16.reduceToNat, UInt8.reduceToNat, Int.reduceAdd, Int.reduceSub, Int.reduceMul, Nat.reduceMul, ne_eq, eq_self, Option.isNone_some, Option.isNone_none, List.length_set, List.length_replicate, List.getElem?_cons_zero, List.getElem?_cons_succ, Qp0, Qe0]
  refine (inum_any w0 _ ib s hs 16 _ hi).mono ?_
  rintro v q3 ⟨rfl, hi, hc⟩
  obtain ⟨⟨x1, s1⟩, e1⟩ : ∃ p, p = numS 16 s.length (.ok s) := ⟨_, rfl⟩
  rw [← e1] at hi
  rw [← e1]
  simp only at hi
  have hm := hc.m _ _ hm hne
  have hcc := hcc.trans hc
  have hibl := Nat.lt_of_lt_of_le hibl hc.top
  simp -dsimp -implicitDefEqProofs (disch := first | omega | assumption | (simp only [Option.isSome_some, Qt0]; done) | (simp only [UInt64.reduceToNat, UInt32.reduceToNat, UInt8.reduceToNat, List.length_cons, List.length_nil, List.length_append, Int.toNat_natCast] <;> omega)) only [Nat.reduceLT, Nat.reduceLeDiff, Nat.reduceEqDiff, ↓reduceIte, beq_self_eq_true, List.getD_cons_zero, List.getD_cons_succ, Int.reduceLT, Int.reduceLE, Int.reduceToNat, Int.reduceEq, Int.reduceNe, Option.bind_some, List.map_cons, List.map_nil, List.zip_cons_cons, List.zip_nil_left, List.append_nil, List.nil_append, List.cons_append, List.length_cons, List.length_nil, Nat.reduceAdd, UInt8.reduceOfNat, UInt16.reduceOfNat, UInt32.reduceOfNat, UInt64.reduceOfNat, UInt64.reduceToNat, UInt32.reduceToNat, UInt16.reduceToNat, UInt8.reduceToNat, Int.reduceAdd, Int.reduceSub, Int.reduceMul, Nat.reduceMul, ne_eq, eq_self, Option.isNone_some, Option.isNone_none, List.length_set, List.length_replicate, List.getElem?_cons_zero, List.getElem?_cons_succ, Qp0, Qe0, rd_M, rdM_some, hm, List.set_cons_zero, List.set_cons_succ, List.take_zero, List.drop_succ_cons, List.drop_zero, List.drop_nil, List.nil_append, List.append_nil, List.take_succ_cons, ite_true, PH.new_new]
  refine (inum_any w0 _ ib s hs 1099511627776 _ hi).mono ?_
  rintro v q4 ⟨rfl, hi, hc⟩
  obtain ⟨⟨x2, s2⟩, e2⟩ : ∃ p, p = numS 1099511627776 s.length s1 := ⟨_, rfl⟩
  rw [← e2] at hi
  rw [← e2]
  simp only at hi
  have hm := hc.m _ _ hm hne
  have hcc := hcc.trans hc
  have hibl := Nat.lt_of_lt_of_le hibl hc.top
  simp -dsimp -implicitDefEqProofs (disch := first | omega | assumption | (simp only [Option.isSome_some, Qt0]; done) | (simp only [UInt64.reduceToNat, UInt32.reduceToNat, UInt8.reduceToNat, List.length_cons, List.length_nil, List.length_append, Int.toNat_natCast] <;> omega)) only [Nat.reduceLT, Nat.reduceLeDiff, Nat.reduceEqDiff, ↓reduceIte, beq_self_eq_true, List.getD_cons_zero, List.getD_cons_succ, Int.reduceLT, Int.reduceLE, Int.reduceToNat, Int.reduceEq, Int.reduceNe, Option.bind_some, List.map_cons, List.map_nil, List.zip_cons_cons, List.zip_nil_left, List.append_nil, List.nil_append, List.cons_append, List.length_cons, List.length_nil, Nat.reduceAdd, UInt8.reduceOfNat, UInt16.reduceOfNat, UInt32.reduceOfNat, UInt64.reduceOfNat, UInt64.reduceToNat, UInt32.reduceToNat, UInt16.reduceToNat, UInt8.reduceToNat, Int.reduceAdd, Int.reduceSub, Int.reduceMul, Nat.reduceMul, ne_eq, eq_self, Option.isNone_some, Option.isNone_none, List.length_set, List.length_replicate, List.getElem?_cons_zero, List.getElem?_cons_succ, Qp0, Qe0, rd_M, rdM_some, hm, List.set_cons_zero, List.set_cons_succ, List.take_zero, List.drop_succ_cons, List.drop_zero, List.drop_nil, List.nil_append, List.append_nil, List.take_succ_cons, ite_true, PH.new_new]
  refine fun wb hwb => ?_
  have hlw := (PH.Le.refl q4).new wb ⟨[.int .i64 x1, .int .i64 x2, .int .i64 0, .int .i64 0, .slice none 0 0, .string ⟨#[]⟩, .string ⟨#[]⟩, .string ⟨#[]⟩, .bool false, .int .i64 0], 10⟩ hwb
  have hw : (q4.new wb ⟨[.int .i64 x1, .int .i64 x2, .int .i64 0, .int .i64 0, .slice none 0 0, .string ⟨#[]⟩, .string ⟨#[]⟩, .string ⟨#[]⟩, .bool false, .int .i64 0], 10⟩).m wb = some ⟨[.int .i64 x1, .int .i64 x2, .int .i64 0, .int .i64 0, .slice none 0 0, .string ⟨#[]⟩, .string ⟨#[]⟩, .string ⟨#[]⟩, .bool false, .int .i64 0], 10⟩ := by rw [PH.new_m, if_pos rfl]
  have ha := allOne_of [.int .i64 x1, .int .i64 x2, .int .i64 0, .int .i64 0, .slice none 0 0, .string ⟨#[]⟩, .string ⟨#[]⟩, .string ⟨#[]⟩, .bool false, .int .i64 0] rfl
  have hrw : rb ≠ wb := by have := q4.lt _ _ hm; omega
  have hnw : wb ≠ ib := by omega
  have hwb0 : h.top ≤ wb := Nat.le_trans (Nat.le_trans hle2.top hcc.top) hwb
  have hcc := (hcc.mono (G := fun x => x = ib ∨ x = rb ∨ x = wb) fun x _ e => .inl e).trans (.le hlw)
  have hm := hlw.m _ _ hm
  have hi := hi.more hlw
  have hibl := Nat.lt_of_lt_of_le hibl hlw.top
  simp -dsimp -implicitDefEqProofs (disch := first | omega | assumption | (simp only [Option.isSome_some, Qt0]; done) | (simp only [UInt64.reduceToNat, UInt32.reduceToNat, UInt8.reduceToNat, List.length_cons, List.length_nil, List.length_append, Int.toNat_natCast] <;> omega)) only [Nat.reduceLT, Nat.reduceLeDiff, Nat.reduceEqDiff, ↓reduceIte, beq_self_eq_true, List.getD_cons_zero, List.getD_cons_succ, Int.reduceLT, Int.reduceLE, Int.reduceToNat, Int.reduceEq, Int.reduceNe, Option.bind_some, List.map_cons, List.map_nil, List.zip_cons_cons, List.zip_nil_left, List.append_nil, List.nil_append, List.cons_append, List.length_cons, List.length_nil, Nat.reduceAdd, UInt8.reduceOfNat, UInt16.reduceOfNat, UInt32.reduceOfNat, UInt64.reduceOfNat, UInt64.reduceToNat, UInt32.reduceToNat, UInt16.reduceToNat, UInt8.reduceToNat, Int.reduceAdd, Int.reduceSub, Int.reduceMul, Nat.reduceMul, ne_eq, eq_self, Option.isNone_some, Option.isNone_none, List.length_set, List.length_replicate, List.getElem?_cons_zero, List.getElem?_cons_succ, Qp0, Qe0, List.set_cons_zero, List.set_cons_succ, List.take_zero, List.drop_succ_cons, List.drop_zero, List.drop_nil, List.nil_append, List.append_nil, List.take_succ_cons, ite_true, PH.new_new]
  generalize q4.new wb ⟨[.int .i64 x1, .int .i64 x2, .int .i64 0, .int .i64 0, .slice none 0 0, .string ⟨#[]⟩, .string ⟨#[]⟩, .string ⟨#[]⟩, .bool false, .int .i64 0], 10⟩ = q5 at *
  obtain ⟨hS, hSm, hSs⟩ := solo w0 q5 wb 10 [.int .i64 x1, .int .i64 x2] _ hw
  refine PW_plan [0, 2, 3, 1, 4, 5, 6] hS (by kernel_rfl) (by decide +kernel) (by kernel_rfl) (by kernel_rfl) (by kernel_rfl) (fun c f h hq => by simp only [thenC_panic, thenK_panic, inBlk_panic, thenN_panic, vcRet_panic] at hq) (hSs _ _ (Nat.le_refl _) hw) ?_
  have hSt := q5.top
  have htop0 := Nat.le_refl q5.top
  have hsb : ∀ (t : TypeId) (ps : Array (Nat × Operand)), silentB Try.prog (.build t ps) = true := fun _ _ => rfl
  simp -dsimp -implicitDefEqProofs (disch := first | omega | assumption | (simp only [Option.isSome_some, Qt0]; done) | (simp only [UInt64.reduceToNat, UInt32.reduceToNat, UInt8.reduceToNat, List.length_cons, List.length_nil, List.length_append, Int.toNat_natCast] <;> omega)) only [Nat.reduceLT, Nat.reduceLeDiff, Nat.reduceEqDiff, ↓reduceIte, beq_self_eq_true, List.getD_cons_zero, List.getD_cons_succ, Int.reduceLT, Int.reduceLE, Int.reduceToNat, Int.reduceEq, Int.reduceNe, Option.bind_some, List.map_cons, List.map_nil, List.zip_cons_cons, List.zip_nil_left, List.append_nil, List.nil_append, List.cons_append, List.length_cons, List.length_nil, Nat.reduceAdd, UInt8.reduceOfNat, UInt16.reduceOfNat, UInt32.reduceOfNat, UInt64.reduceOfNat, UInt64.reduceToNat, UInt32.reduceToNat, UInt16.reduceToNat, UInt8.reduceToNat, Int.reduceAdd, Int.reduceSub, Int.reduceMul, Nat.reduceMul, ne_eq, eq_self, Option.isNone_some, Option.isNone_none, List.length_set, List.length_replicate, List.getElem?_cons_zero, List.getElem?_cons_succ, Qp0, Qe0, rd_M, rdM_some, hSm, hsb]
  refine (inum_any w0 _ ib s hs 1099511627776 _ hi).mono ?_
  rintro v q6 ⟨rfl, hi, hc⟩
  obtain ⟨⟨x3, s3⟩, e3⟩ : ∃ p, p = numS 1099511627776 s.length s2 := ⟨_, rfl⟩
  rw [← e3] at hi
  rw [← e3]
  simp only at hi
  have hm := hc.m _ _ hm hne
  have hw := hc.m _ _ hw hnw
  have hcc := hcc.trans (hc.mono (G := fun x => x = ib ∨ x = rb ∨ x = wb) fun x _ e => .inl e)
  have hibl := Nat.lt_of_lt_of_le hibl hc.top
  have htop0 := Nat.le_trans htop0 hc.top
  refine ⟨hSs _ _ htop0 hw, ?_⟩
  have ha3 := allOne_of [.int .i64 x3, .int .i64 x1] rfl
  simp -dsimp -implicitDefEqProofs (disch := first | omega | assumption | (simp only [Option.isSome_some, Qt0]; done) | (simp only [UInt64.reduceToNat, UInt32.reduceToNat, UInt8.reduceToNat, List.length_cons, List.length_nil, List.length_append, Int.toNat_natCast] <;> omega)) only [Nat.reduceLT, Nat.reduceLeDiff, Nat.reduceEqDiff, ↓reduceIte, beq_self_eq_true, List.getD_cons_zero, List.getD_cons_succ, Int.reduceLT, Int.reduceLE, Int.reduceToNat, Int.reduceEq, Int.reduceNe, Option.bind_some, List.map_cons, List.map_nil, List.zip_cons_cons, List.zip_nil_left, List.append_nil, List.nil_append, List.cons_append, List.length_cons, List.length_nil, Nat.reduceAdd, UInt8.reduceOfNat, UInt16.reduceOfNat, UInt32.reduceOfNat, UInt64.reduceOfNat, UInt64.reduceToNat, UInt32.reduceToNat, UInt16.reduceToNat, UInt8.reduceToNat, Int.reduceAdd, Int.reduceSub, Int.reduceMul, Nat.reduceMul, ne_eq, eq_self, Option.isNone_some, Option.isNone_none, List.length_set, List.length_replicate, List.getElem?_cons_zero, List.getElem?_cons_succ, Qp0, Qe0, rd_M, rdM_some, hSm, hw, hsb, List.set_cons_zero, List.set_cons_succ, List.take_zero, List.drop_succ_cons, List.drop_zero, List.drop_nil, List.nil_append, List.append_nil, List.take_succ_cons, ite_true, PH.new_new]
  refine ⟨hSs _ [.int .i64 x3, .int .i64 x1, .slice none 0 0, .string ⟨#[]⟩, .string ⟨#[]⟩, .string ⟨#[]⟩, .bool false, .int .i64 0] (by simp only [PH.new_top]; omega) (by rw [PH.new_m, if_pos rfl]; rfl), ?_⟩
  have hcc := hcc.put (F := fun x => x = ib ∨ x = rb ∨ x = wb) (b := wb) (.inr (.inr rfl)) ⟨[.int .i64 x1, .int .i64 x2, .int .i64 x3, .int .i64 x1, .slice none 0 0, .string ⟨#[]⟩, .string ⟨#[]⟩, .string ⟨#[]⟩, .bool false, .int .i64 0], 10⟩
  have hi := IS_put hi hw (show (10 : Nat) ≠ 3 by omega) ⟨[.int .i64 x1, .int .i64 x2, .int .i64 x3, .int .i64 x1, .slice none 0 0, .string ⟨#[]⟩, .string ⟨#[]⟩, .string ⟨#[]⟩, .bool false, .int .i64 0], 10⟩
  have hm : (q6.new wb ⟨[.int .i64 x1, .int .i64 x2, .int .i64 x3, .int .i64 x1, .slice none 0 0, .string ⟨#[]⟩, .string ⟨#[]⟩, .string ⟨#[]⟩, .bool false, .int .i64 0], 10⟩).m rb = some ⟨[.int .i64 0, .int .i64 0, .int .i64 0, .int .i64 0, .slice none 0 0, .string ⟨#[]⟩, .string ⟨#[]⟩, .string ⟨#[]⟩, .bool false, .int .i64 0], 10⟩ := by rw [PH.new_m, if_neg hrw]; exact hm
  have hw : (q6.new wb ⟨[.int .i64 x1, .int .i64 x2, .int .i64 x3, .int .i64 x1, .slice none 0 0, .string ⟨#[]⟩, .string ⟨#[]⟩, .string ⟨#[]⟩, .bool false, .int .i64 0], 10⟩).m wb = some ⟨[.int .i64 x1, .int .i64 x2, .int .i64 x3, .int .i64 x1, .slice none 0 0, .string ⟨#[]⟩, .string ⟨#[]⟩, .string ⟨#[]⟩, .bool false, .int .i64 0], 10⟩ := by rw [PH.new_m, if_pos rfl]
  have hibl : ib < (q6.new wb ⟨[.int .i64 x1, .int .i64 x2, .int .i64 x3, .int .i64 x1, .slice none 0 0, .string ⟨#[]⟩, .string ⟨#[]⟩, .string ⟨#[]⟩, .bool false, .int .i64 0], 10⟩).top := by simp only [PH.new_top]; omega
  generalize q6.new wb ⟨[.int .i64 x1, .int .i64 x2, .int .i64 x3, .int .i64 x1, .slice none 0 0, .string ⟨#[]⟩, .string ⟨#[]⟩, .string ⟨#[]⟩, .bool false, .int .i64 0], 10⟩ = q7 at *
  simp -dsimp -implicitDefEqProofs (disch := first | omega | assumption | (simp only [Option.isSome_some, Qt0]; done) | (simp only [UInt64.reduceToNat, UInt32.reduceToNat, UInt8.reduceToNat, List.length_cons, List.length_nil, List.length_append, Int.toNat_natCast] <;> omega)) only [Nat.reduceLT, Nat.reduceLeDiff, Nat.reduceEqDiff, ↓reduceIte, beq_self_eq_true, List.getD_cons_zero, List.getD_cons_succ, Int.reduceLT, Int.reduceLE, Int.reduceToNat, Int.reduceEq, Int.reduceNe, Option.bind_some, List.map_cons, List.map_nil, List.zip_cons_cons, List.zip_nil_left, List.append_nil, List.nil_append, List.cons_append, List.length_cons, List.length_nil, Nat.reduceAdd, UInt8.reduceOfNat, UInt16.reduceOfNat, UInt32.reduceOfNat, UInt64.reduceOfNat, UInt64.reduceToNat, UInt32.reduceToNat, UInt16.reduceToNat, UInt8.reduceToNat, Int.reduceAdd, Int.reduceSub, Int.reduceMul, Nat.reduceMul, ne_eq, eq_self, Option.isNone_some, Option.isNone_none, List.length_set, List.length_replicate, List.getElem?_cons_zero, List.getElem?_cons_succ, Qp0, Qe0]
  refine (ivec_any w0 _ ib s hs _ hi).mono ?_
  rintro v q8 ⟨A, cap, rfl, how, hi⟩
  obtain ⟨⟨x4, s4⟩, e4⟩ : ∃ p, p = vecS s.length s3 := ⟨_, rfl⟩
  rw [← e4] at hi how
  rw [← e4]
  simp only at hi how
  have hc := how.chg
  obtain ⟨_, _, hA, hcap⟩ := how.own.len
  injection hA with hA1 hA2 hA3
  subst hA1; subst hA3
  have hnA : ∀ a, A = some a → a.block ≠ ib ∧ a.block ≠ rb ∧ a.block ≠ wb := fun a ea => by
    have h5 := how.new _ (how.own.A a ea)
    have h6 := hibl
    have h7 := q7.lt _ _ hm
    have h8 := q7.lt _ _ hw
    refine ⟨?_, ?_, ?_⟩ <;> omega
  have hrv : Rv w0 q8 A (ints x4) := how.rv
  have hm := hc.m _ _ hm hne
  have hw := hc.m _ _ hw hnw
  have hcc := hcc.trans (hc.mono (G := fun x => x = ib ∨ x = rb ∨ x = wb) fun x _ e => .inl e)
  have hibl := Nat.lt_of_lt_of_le hibl hc.top
  simp -dsimp -implicitDefEqProofs (disch := first | omega | assumption | (simp only [Option.isSome_some, Qt0]; done) | (simp only [UInt64.reduceToNat, UInt32.reduceToNat, UInt8.reduceToNat, List.length_cons, List.length_nil, List.length_append, Int.toNat_natCast] <;> omega)) only [Nat.reduceLT, Nat.reduceLeDiff, Nat.reduceEqDiff, ↓reduceIte, beq_self_eq_true, List.getD_cons_zero, List.getD_cons_succ, Int.reduceLT, Int.reduceLE, Int.reduceToNat, Int.reduceEq, Int.reduceNe, Option.bind_some, List.map_cons, List.map_nil, List.zip_cons_cons, List.zip_nil_left, List.append_nil, List.nil_append, List.cons_append, List.length_cons, List.length_nil, Nat.reduceAdd, UInt8.reduceOfNat, UInt16.reduceOfNat, UInt32.reduceOfNat, UInt64.reduceOfNat, UInt64.reduceToNat, UInt32.reduceToNat, UInt16.reduceToNat, UInt8.reduceToNat, Int.reduceAdd, Int.reduceSub, Int.reduceMul, Nat.reduceMul, ne_eq, eq_self, Option.isNone_some, Option.isNone_none, List.length_set, List.length_replicate, List.getElem?_cons_zero, List.getElem?_cons_succ, Qp0, Qe0, rd_M, rdM_some, hm, hw, List.set_cons_zero, List.set_cons_succ, List.take_zero, List.drop_succ_cons, List.drop_zero, List.drop_nil, List.nil_append, List.append_nil, List.take_succ_cons, ite_true, PH.new_new]
  have hcc := hcc.put (F := fun x => x = ib ∨ x = rb ∨ x = wb) (b := wb) (.inr (.inr rfl)) ⟨[.int .i64 x1, .int .i64 x2, .int .i64 x3, .int .i64 x1, .slice A x4.length cap, .string ⟨#[]⟩, .string ⟨#[]⟩, .string ⟨#[]⟩, .bool false, .int .i64 0], 10⟩
  have hi := IS_put hi hw (show (10 : Nat) ≠ 3 by omega) ⟨[.int .i64 x1, .int .i64 x2, .int .i64 x3, .int .i64 x1, .slice A x4.length cap, .string ⟨#[]⟩, .string ⟨#[]⟩, .string ⟨#[]⟩, .bool false, .int .i64 0], 10⟩
  have hrv := hrv.chg (F := (· = wb)) ((Chg.refl (· = wb) q8).one ⟨[.int .i64 x1, .int .i64 x2, .int .i64 x3, .int .i64 x1, .slice A x4.length cap, .string ⟨#[]⟩, .string ⟨#[]⟩, .string ⟨#[]⟩, .bool false, .int .i64 0], 10⟩) (fun a ea e => (hnA a ea).2.2 e)
  have hm : (q8.new wb ⟨[.int .i64 x1, .int .i64 x2, .int .i64 x3, .int .i64 x1, .slice A x4.length cap, .string ⟨#[]⟩, .string ⟨#[]⟩, .string ⟨#[]⟩, .bool false, .int .i64 0], 10⟩).m rb = some ⟨[.int .i64 0, .int .i64 0, .int .i64 0, .int .i64 0, .slice none 0 0, .string ⟨#[]⟩, .string ⟨#[]⟩, .string ⟨#[]⟩, .bool false, .int .i64 0], 10⟩ := by rw [PH.new_m, if_neg hrw]; exact hm
  have hw : (q8.new wb ⟨[.int .i64 x1, .int .i64 x2, .int .i64 x3, .int .i64 x1, .slice A x4.length cap, .string ⟨#[]⟩, .string ⟨#[]⟩, .string ⟨#[]⟩, .bool false, .int .i64 0], 10⟩).m wb = some ⟨[.int .i64 x1, .int .i64 x2, .int .i64 x3, .int .i64 x1, .slice A x4.length cap, .string ⟨#[]⟩, .string ⟨#[]⟩, .string ⟨#[]⟩, .bool false, .int .i64 0], 10⟩ := by rw [PH.new_m, if_pos rfl]
  have hibl : ib < (q8.new wb ⟨[.int .i64 x1, .int .i64 x2, .int .i64 x3, .int .i64 x1, .slice A x4.length cap, .string ⟨#[]⟩, .string ⟨#[]⟩, .string ⟨#[]⟩, .bool false, .int .i64 0], 10⟩).top := by simp only [PH.new_top]; omega
  generalize q8.new wb ⟨[.int .i64 x1, .int .i64 x2, .int .i64 x3, .int .i64 x1, .slice A x4.length cap, .string ⟨#[]⟩, .string ⟨#[]⟩, .string ⟨#[]⟩, .bool false, .int .i64 0], 10⟩ = q9 at *
  refine (itext_any w0 _ ib s hs 64 _ hi).mono ?_
  rintro v q10 ⟨rfl, hi, hc⟩
  obtain ⟨⟨x5, s5⟩, e5⟩ : ∃ p, p = txtS 64 s.length s4 := ⟨_, rfl⟩
  rw [← e5] at hi
  rw [← e5]
  simp only at hi
  have hrv := hrv.chg hc (fun a ea e => (hnA a ea).1 e)
  have hm := hc.m _ _ hm hne
  have hw := hc.m _ _ hw hnw
  have hcc := hcc.trans (hc.mono (G := fun x => x = ib ∨ x = rb ∨ x = wb) fun x _ e => .inl e)
  have hibl := Nat.lt_of_lt_of_le hibl hc.top
  simp -dsimp -implicitDefEqProofs (disch := first | omega | assumption | (simp only [Option.isSome_some, Qt0]; done) | (simp only [UInt64.reduceToNat, UInt32.reduceToNat, UInt8.reduceToNat, List.length_cons, List.length_nil, List.length_append, Int.toNat_natCast] <;> omega)) only [Nat.reduceLT, Nat.reduceLeDiff, Nat.reduceEqDiff, ↓reduceIte, beq_self_eq_true, List.getD_cons_zero, List.getD_cons_succ, Int.reduceLT, Int.reduceLE, Int.reduceToNat, Int.reduceEq, Int.reduceNe, Option.bind_some, List.map_cons, List.map_nil, List.zip_cons_cons, List.zip_nil_left, List.append_nil, List.nil_append, List.cons_append, List.length_cons, List.length_nil, Nat.reduceAdd, UInt8.reduceOfNat, UInt16.reduceOfNat, UInt32.reduceOfNat, UInt64.reduceOfNat, UInt64.reduceToNat, UInt32.reduceToNat, UInt16.reduceToNat, UInt8.reduceToNat, Int.reduceAdd, Int.reduceSub, Int.reduceMul, Nat.reduceMul, ne_eq, eq_self, Option.isNone_some, Option.isNone_none, List.length_set, List.length_replicate, List.getElem?_cons_zero, List.getElem?_cons_succ, Qp0, Qe0, rd_M, rdM_some, hm, hw, List.set_cons_zero, List.set_cons_succ, List.take_zero, List.drop_succ_cons, List.drop_zero, List.drop_nil, List.nil_append, List.append_nil, List.take_succ_cons, ite_true, PH.new_new]
  refine (itext_any w0 _ ib s hs 32 _ hi).mono ?_
  rintro v q11 ⟨rfl, hi, hc⟩
  obtain ⟨⟨x6, s6⟩, e6⟩ : ∃ p, p = txtS 32 s.length s5 := ⟨_, rfl⟩
  rw [← e6] at hi
  rw [← e6]
  simp only at hi
  have hrv := hrv.chg hc (fun a ea e => (hnA a ea).1 e)
  have hm := hc.m _ _ hm hne
  have hw := hc.m _ _ hw hnw
  have hcc := hcc.trans (hc.mono (G := fun x => x = ib ∨ x = rb ∨ x = wb) fun x _ e => .inl e)
  have hibl := Nat.lt_of_lt_of_le hibl hc.top
  simp -dsimp -implicitDefEqProofs (disch := first | omega | assumption | (simp only [Option.isSome_some, Qt0]; done) | (simp only [UInt64.reduceToNat, UInt32.reduceToNat, UInt8.reduceToNat, List.length_cons, List.length_nil, List.length_append, Int.toNat_natCast] <;> omega)) only [Nat.reduceLT, Nat.reduceLeDiff, Nat.reduceEqDiff, ↓reduceIte, beq_self_eq_true, List.getD_cons_zero, List.getD_cons_succ, Int.reduceLT, Int.reduceLE, Int.reduceToNat, Int.reduceEq, Int.reduceNe, Option.bind_some, List.map_cons, List.map_nil, List.zip_cons_cons, List.zip_nil_left, List.append_nil, List.nil_append, List.cons_append, List.length_cons, List.length_nil, Nat.reduceAdd, UInt8.reduceOfNat, UInt16.reduceOfNat, UInt32.reduceOfNat, UInt64.reduceOfNat, UInt64.reduceToNat, UInt32.reduceToNat, UInt16.reduceToNat, UInt8.reduceToNat, Int.reduceAdd, Int.reduceSub, Int.reduceMul, Nat.reduceMul, ne_eq, eq_self, Option.isNone_some, Option.isNone_none, List.length_set, List.length_replicate, List.getElem?_cons_zero, List.getElem?_cons_succ, Qp0, Qe0, rd_M, rdM_some, hm, hw, List.set_cons_zero, List.set_cons_succ, List.take_zero, List.drop_succ_cons, List.drop_zero, List.drop_nil, List.nil_append, List.append_nil, List.take_succ_cons, ite_true, PH.new_new]
  have hcc := hcc.put (F := fun x => x = ib ∨ x = rb ∨ x = wb) (b := wb) (.inr (.inr rfl)) ⟨[.int .i64 x1, .int .i64 x2, .int .i64 x3, .int .i64 x1, .slice A x4.length cap, str x5, str x6, .string ⟨#[]⟩, .bool false, .int .i64 0], 10⟩
  have hi := IS_put hi hw (show (10 : Nat) ≠ 3 by omega) ⟨[.int .i64 x1, .int .i64 x2, .int .i64 x3, .int .i64 x1, .slice A x4.length cap, str x5, str x6, .string ⟨#[]⟩, .bool false, .int .i64 0], 10⟩
  have hrv := hrv.chg (F := (· = wb)) ((Chg.refl (· = wb) q11).one ⟨[.int .i64 x1, .int .i64 x2, .int .i64 x3, .int .i64 x1, .slice A x4.length cap, str x5, str x6, .string ⟨#[]⟩, .bool false, .int .i64 0], 10⟩) (fun a ea e => (hnA a ea).2.2 e)
  have hm : (q11.new wb ⟨[.int .i64 x1, .int .i64 x2, .int .i64 x3, .int .i64 x1, .slice A x4.length cap, str x5, str x6, .string ⟨#[]⟩, .bool false, .int .i64 0], 10⟩).m rb = some ⟨[.int .i64 0, .int .i64 0, .int .i64 0, .int .i64 0, .slice none 0 0, .string ⟨#[]⟩, .string ⟨#[]⟩, .string ⟨#[]⟩, .bool false, .int .i64 0], 10⟩ := by rw [PH.new_m, if_neg hrw]; exact hm
  have hw : (q11.new wb ⟨[.int .i64 x1, .int .i64 x2, .int .i64 x3, .int .i64 x1, .slice A x4.length cap, str x5, str x6, .string ⟨#[]⟩, .bool false, .int .i64 0], 10⟩).m wb = some ⟨[.int .i64 x1, .int .i64 x2, .int .i64 x3, .int .i64 x1, .slice A x4.length cap, str x5, str x6, .string ⟨#[]⟩, .bool false, .int .i64 0], 10⟩ := by rw [PH.new_m, if_pos rfl]
  have hibl : ib < (q11.new wb ⟨[.int .i64 x1, .int .i64 x2, .int .i64 x3, .int .i64 x1, .slice A x4.length cap, str x5, str x6, .string ⟨#[]⟩, .bool false, .int .i64 0], 10⟩).top := by simp only [PH.new_top]; omega
  generalize q11.new wb ⟨[.int .i64 x1, .int .i64 x2, .int .i64 x3, .int .i64 x1, .slice A x4.length cap, str x5, str x6, .string ⟨#[]⟩, .bool false, .int .i64 0], 10⟩ = q12 at *
  refine (iflag_any w0 _ ib s hs _ hi).mono ?_
  rintro v q13 ⟨rfl, hi, hc⟩
  obtain ⟨⟨x7, s7⟩, e7⟩ : ∃ p, p = flagS s.length s6 := ⟨_, rfl⟩
  rw [← e7] at hi
  rw [← e7]
  simp only at hi
  have hrv := hrv.chg hc (fun a ea e => (hnA a ea).1 e)
  have hm := hc.m _ _ hm hne
  have hw := hc.m _ _ hw hnw
  have hcc := hcc.trans (hc.mono (G := fun x => x = ib ∨ x = rb ∨ x = wb) fun x _ e => .inl e)
  have hibl := Nat.lt_of_lt_of_le hibl hc.top
  simp -dsimp -implicitDefEqProofs (disch := first | omega | assumption | (simp only [Option.isSome_some, Qt0]; done) | (simp only [UInt64.reduceToNat, UInt32.reduceToNat, UInt8.reduceToNat, List.length_cons, List.length_nil, List.length_append, Int.toNat_natCast] <;> omega)) only [Nat.reduceLT, Nat.reduceLeDiff, Nat.reduceEqDiff, ↓reduceIte, beq_self_eq_true, List.getD_cons_zero, List.getD_cons_succ, Int.reduceLT, Int.reduceLE, Int.reduceToNat, Int.reduceEq, Int.reduceNe, Option.bind_some, List.map_cons, List.map_nil, List.zip_cons_cons, List.zip_nil_left, List.append_nil, List.nil_append, List.cons_append, List.length_cons, List.length_nil, Nat.reduceAdd, UInt8.reduceOfNat, UInt16.reduceOfNat, UInt32.reduceOfNat, UInt64.reduceOfNat, UInt64.reduceToNat, UInt32.reduceToNat, UInt16.reduceToNat, UInt8.reduceToNat, Int.reduceAdd, Int.reduceSub, Int.reduceMul, Nat.reduceMul, ne_eq, eq_self, Option.isNone_some, Option.isNone_none, List.length_set, List.length_replicate, List.getElem?_cons_zero, List.getElem?_cons_succ, Qp0, Qe0, rd_M, rdM_some, hm, hw, List.set_cons_zero, List.set_cons_succ, List.take_zero, List.drop_succ_cons, List.drop_zero, List.drop_nil, List.nil_append, List.append_nil, List.take_succ_cons, ite_true, PH.new_new]
  refine (itext_any w0 _ ib s hs 128 _ hi).mono ?_
  rintro v q14 ⟨rfl, hi, hc⟩
  obtain ⟨⟨x8, s8⟩, e8⟩ : ∃ p, p = txtS 128 s.length s7 := ⟨_, rfl⟩
  rw [← e8] at hi
  rw [← e8]
  simp only at hi
  have hrv := hrv.chg hc (fun a ea e => (hnA a ea).1 e)
  have hm := hc.m _ _ hm hne
  have hw := hc.m _ _ hw hnw
  have hcc := hcc.trans (hc.mono (G := fun x => x = ib ∨ x = rb ∨ x = wb) fun x _ e => .inl e)
  have hibl := Nat.lt_of_lt_of_le hibl hc.top
  simp -dsimp -implicitDefEqProofs (disch := first | omega | assumption | (simp only [Option.isSome_some, Qt0]; done) | (simp only [UInt64.reduceToNat, UInt32.reduceToNat, UInt8.reduceToNat, List.length_cons, List.length_nil, List.length_append, Int.toNat_natCast] <;> omega)) only [Nat.reduceLT, Nat.reduceLeDiff, Nat.reduceEqDiff, ↓reduceIte, beq_self_eq_true, List.getD_cons_zero, List.getD_cons_succ, Int.reduceLT, Int.reduceLE, Int.reduceToNat, Int.reduceEq, Int.reduceNe, Option.bind_some, List.map_cons, List.map_nil, List.zip_cons_cons, List.zip_nil_left, List.append_nil, List.nil_append, List.cons_append, List.length_cons, List.length_nil, Nat.reduceAdd, UInt8.reduceOfNat, UInt16.reduceOfNat, UInt32.reduceOfNat, UInt64.reduceOfNat, UInt64.reduceToNat, UInt32.reduceToNat, UInt16.reduceToNat, UInt8.reduceToNat, Int.reduceAdd, Int.reduceSub, Int.reduceMul, Nat.reduceMul, ne_eq, eq_self, Option.isNone_some, Option.isNone_none, List.length_set, List.length_replicate, List.getElem?_cons_zero, List.getElem?_cons_succ, Qp0, Qe0, rd_M, rdM_some, hm, hw, List.set_cons_zero, List.set_cons_succ, List.take_zero, List.drop_succ_cons, List.drop_zero, List.drop_nil, List.nil_append, List.append_nil, List.take_succ_cons, ite_true, PH.new_new]
  have hcc := hcc.put (F := fun x => x = ib ∨ x = rb ∨ x = wb) (b := wb) (.inr (.inr rfl)) ⟨[.int .i64 x1, .int .i64 x2, .int .i64 x3, .int .i64 x1, .slice A x4.length cap, str x5, str x6, str x8, .bool x7, .int .i64 0], 10⟩
  have hi := IS_put hi hw (show (10 : Nat) ≠ 3 by omega) ⟨[.int .i64 x1, .int .i64 x2, .int .i64 x3, .int .i64 x1, .slice A x4.length cap, str x5, str x6, str x8, .bool x7, .int .i64 0], 10⟩
  have hrv := hrv.chg (F := (· = wb)) ((Chg.refl (· = wb) q14).one ⟨[.int .i64 x1, .int .i64 x2, .int .i64 x3, .int .i64 x1, .slice A x4.length cap, str x5, str x6, str x8, .bool x7, .int .i64 0], 10⟩) (fun a ea e => (hnA a ea).2.2 e)
  have hm : (q14.new wb ⟨[.int .i64 x1, .int .i64 x2, .int .i64 x3, .int .i64 x1, .slice A x4.length cap, str x5, str x6, str x8, .bool x7, .int .i64 0], 10⟩).m rb = some ⟨[.int .i64 0, .int .i64 0, .int .i64 0, .int .i64 0, .slice none 0 0, .string ⟨#[]⟩, .string ⟨#[]⟩, .string ⟨#[]⟩, .bool false, .int .i64 0], 10⟩ := by rw [PH.new_m, if_neg hrw]; exact hm
  have hw : (q14.new wb ⟨[.int .i64 x1, .int .i64 x2, .int .i64 x3, .int .i64 x1, .slice A x4.length cap, str x5, str x6, str x8, .bool x7, .int .i64 0], 10⟩).m wb = some ⟨[.int .i64 x1, .int .i64 x2, .int .i64 x3, .int .i64 x1, .slice A x4.length cap, str x5, str x6, str x8, .bool x7, .int .i64 0], 10⟩ := by rw [PH.new_m, if_pos rfl]
  have hibl : ib < (q14.new wb ⟨[.int .i64 x1, .int .i64 x2, .int .i64 x3, .int .i64 x1, .slice A x4.length cap, str x5, str x6, str x8, .bool x7, .int .i64 0], 10⟩).top := by simp only [PH.new_top]; omega
  generalize q14.new wb ⟨[.int .i64 x1, .int .i64 x2, .int .i64 x3, .int .i64 x1, .slice A x4.length cap, str x5, str x6, str x8, .bool x7, .int .i64 0], 10⟩ = q15 at *
  refine (inum_any w0 _ ib s hs 1099511627776 _ hi).mono ?_
  rintro v q16 ⟨rfl, hi, hc⟩
  obtain ⟨⟨x9, s9⟩, e9⟩ : ∃ p, p = numS 1099511627776 s.length s8 := ⟨_, rfl⟩
  rw [← e9] at hi
  rw [← e9]
  simp only at hi
  have hrv := hrv.chg hc (fun a ea e => (hnA a ea).1 e)
  have hm := hc.m _ _ hm hne
  have hw := hc.m _ _ hw hnw
  have hcc := hcc.trans (hc.mono (G := fun x => x = ib ∨ x = rb ∨ x = wb) fun x _ e => .inl e)
  have hibl := Nat.lt_of_lt_of_le hibl hc.top
  simp -dsimp -implicitDefEqProofs (disch := first | omega | assumption | (simp only [Option.isSome_some, Qt0]; done) | (simp only [UInt64.reduceToNat, UInt32.reduceToNat, UInt8.reduceToNat, List.length_cons, List.length_nil, List.length_append, Int.toNat_natCast] <;> omega)) only [Nat.reduceLT, Nat.reduceLeDiff, Nat.reduceEqDiff, ↓reduceIte, beq_self_eq_true, List.getD_cons_zero, List.getD_cons_succ, Int.reduceLT, Int.reduceLE, Int.reduceToNat, Int.reduceEq, Int.reduceNe, Option.bind_some, List.map_cons, List.map_nil, List.zip_cons_cons, List.zip_nil_left, List.append_nil, List.nil_append, List.cons_append, List.length_cons, List.length_nil, Nat.reduceAdd, UInt8.reduceOfNat, UInt16.reduceOfNat, UInt32.reduceOfNat, UInt64.reduceOfNat, UInt64.reduceToNat, UInt32.reduceToNat, UInt16.reduceToNat, UInt8.reduceToNat, Int.reduceAdd, Int.reduceSub, Int.reduceMul, Nat.reduceMul, ne_eq, eq_self, Option.isNone_some, Option.isNone_none, List.length_set, List.length_replicate, List.getElem?_cons_zero, List.getElem?_cons_succ, Qp0, Qe0, rd_M, rdM_some, hm, hw, List.set_cons_zero, List.set_cons_succ, List.take_zero, List.drop_succ_cons, List.drop_zero, List.drop_nil, List.nil_append, List.append_nil, List.take_succ_cons, ite_true, PH.new_new]
  have hcc := hcc.put (F := fun x => x = ib ∨ x = rb ∨ x = wb) (b := wb) (.inr (.inr rfl)) ⟨[.int .i64 x1, .int .i64 x2, .int .i64 x3, .int .i64 x1, .slice A x4.length cap, str x5, str x6, str x8, .bool x7, .int .i64 x9], 10⟩
  have hi := IS_put hi hw (show (10 : Nat) ≠ 3 by omega) ⟨[.int .i64 x1, .int .i64 x2, .int .i64 x3, .int .i64 x1, .slice A x4.length cap, str x5, str x6, str x8, .bool x7, .int .i64 x9], 10⟩
  have hrv := hrv.chg (F := (· = wb)) ((Chg.refl (· = wb) q16).one ⟨[.int .i64 x1, .int .i64 x2, .int .i64 x3, .int .i64 x1, .slice A x4.length cap, str x5, str x6, str x8, .bool x7, .int .i64 x9], 10⟩) (fun a ea e => (hnA a ea).2.2 e)
  have hm : (q16.new wb ⟨[.int .i64 x1, .int .i64 x2, .int .i64 x3, .int .i64 x1, .slice A x4.length cap, str x5, str x6, str x8, .bool x7, .int .i64 x9], 10⟩).m rb = some ⟨[.int .i64 0, .int .i64 0, .int .i64 0, .int .i64 0, .slice none 0 0, .string ⟨#[]⟩, .string ⟨#[]⟩, .string ⟨#[]⟩, .bool false, .int .i64 0], 10⟩ := by rw [PH.new_m, if_neg hrw]; exact hm
  have hw : (q16.new wb ⟨[.int .i64 x1, .int .i64 x2, .int .i64 x3, .int .i64 x1, .slice A x4.length cap, str x5, str x6, str x8, .bool x7, .int .i64 x9], 10⟩).m wb = some ⟨[.int .i64 x1, .int .i64 x2, .int .i64 x3, .int .i64 x1, .slice A x4.length cap, str x5, str x6, str x8, .bool x7, .int .i64 x9], 10⟩ := by rw [PH.new_m, if_pos rfl]
  have hibl : ib < (q16.new wb ⟨[.int .i64 x1, .int .i64 x2, .int .i64 x3, .int .i64 x1, .slice A x4.length cap, str x5, str x6, str x8, .bool x7, .int .i64 x9], 10⟩).top := by simp only [PH.new_top]; omega
  generalize q16.new wb ⟨[.int .i64 x1, .int .i64 x2, .int .i64 x3, .int .i64 x1, .slice A x4.length cap, str x5, str x6, str x8, .bool x7, .int .i64 x9], 10⟩ = q17 at *
  have hch : ChW 16 1099511627776 64 32 128 s.length s x1 x2 x3 x4 x5 x6 x7 x8 x9 s1 s2 s3 s4 s5 s6 s7 s8 s9 := ⟨e1, e2, e3, e4, e5, e6, e7, e8, e9⟩
  have hC0 : ∀ q, PH.Le q17 q → rdN w0 q ⟨wb, 0, none⟩ 10 = some [.int .i64 x1, .int .i64 x2, .int .i64 x3, .int .i64 x1, .slice A x4.length cap, str x5, str x6, str x8, .bool x7, .int .i64 x9] := fun q hl => by unfold rdN; simp only [hl.m _ _ hw]; rfl
  have hz := allOne_of [.int .i64 0, .int .i64 0, .int .i64 0, .int .i64 0, .slice none 0 0, .string ⟨#[]⟩, .string ⟨#[]⟩, .string ⟨#[]⟩, .bool false, .int .i64 0] rfl
  have ha2 := allOne_of [.int .i64 x1, .int .i64 x2, .int .i64 x3, .int .i64 x1, .slice A x4.length cap, str x5, str x6, str x8, .bool x7, .int .i64 x9] rfl
  have hleq : PH.Le h q17 := ⟨Nat.le_trans hle2.top hcc.top, fun x k e => hcc.m x k (hle2.m x k e) (fun e' => by have := h.lt _ _ e; rcases e' with e' | e' | e' <;> omega)⟩
  refine (end_any w0 q17 ib s _ hi).mono ?_
  rintro v q8 ⟨he, hl8⟩
  have hm8 := hl8.m _ _ hm
  have hC8 := hC0 q8 hl8
  have hle8 := hleq.trans hl8
  have hrv8 := hrv.more hl8
  rcases EE_told he with ⟨hok, rfl⟩ | ⟨hn, be, p, rfl, hbe⟩
  · have hs0 := hch.back hok
    have hR := rightW_any w0 q8 ⟨x1, x2, x3, x1, x4, x5, x6, x8, x7, x9⟩ A cap hrv8 hcap (by have := vecS_len e4; simp only; omega)
    unfold wtL at hR
    simp only at hR
    cases hr : rightW ⟨x1, x2, x3, x1, x4, x5, x6, x8, x7, x9⟩ with
    | true =>
      rw [hr] at hR
      have hR := Lib.hid hR
      simp -dsimp -implicitDefEqProofs (disch := first | omega | assumption | (simp only [Option.isSome_some, Qt0]; done) | (simp only [UInt64.reduceToNat, UInt32.reduceToNat, UInt8.reduceToNat, List.length_cons, List.length_nil, List.length_append, Int.toNat_natCast] <;> omega)) only [Nat.reduceLT, Nat.reduceLeDiff, Nat.reduceEqDiff, ↓reduceIte, beq_self_eq_true, List.getD_cons_zero, List.getD_cons_succ, Int.reduceLT, Int.reduceLE, Int.reduceToNat, Int.reduceEq, Int.reduceNe, Option.bind_some, List.map_cons, List.map_nil, List.zip_cons_cons, List.zip_nil_left, List.append_nil, List.nil_append, List.cons_append, List.length_cons, List.length_nil, Nat.reduceAdd, UInt8.reduceOfNat, UInt16.reduceOfNat, UInt32.reduceOfNat, UInt64.reduceOfNat, UInt64.reduceToNat, UInt32.reduceToNat, UInt16.reduceToNat, UInt8.reduceToNat, Int.reduceAdd, Int.reduceSub, Int.reduceMul, Nat.reduceMul, ne_eq, eq_self, Option.isNone_some, Option.isNone_none, List.length_set, List.length_replicate, List.getElem?_cons_zero, List.getElem?_cons_succ, Qp0, Qe0, hC8]
      refine hR.out.mono ?_
      rintro v hq ⟨rfl, hz⟩
      obtain rfl := hz.symm
      simp -dsimp -implicitDefEqProofs (disch := first | omega | assumption | (simp only [Option.isSome_some, Qt0]; done) | (simp only [UInt64.reduceToNat, UInt32.reduceToNat, UInt8.reduceToNat, List.length_cons, List.length_nil, List.length_append, Int.toNat_natCast] <;> omega)) only [Nat.reduceLT, Nat.reduceLeDiff, Nat.reduceEqDiff, ↓reduceIte, beq_self_eq_true, List.getD_cons_zero, List.getD_cons_succ, Int.reduceLT, Int.reduceLE, Int.reduceToNat, Int.reduceEq, Int.reduceNe, Option.bind_some, List.map_cons, List.map_nil, List.zip_cons_cons, List.zip_nil_left, List.append_nil, List.nil_append, List.cons_append, List.length_cons, List.length_nil, Nat.reduceAdd, UInt8.reduceOfNat, UInt16.reduceOfNat, UInt32.reduceOfNat, UInt64.reduceOfNat, UInt64.reduceToNat, UInt32.reduceToNat, UInt16.reduceToNat, UInt8.reduceToNat, Int.reduceAdd, Int.reduceSub, Int.reduceMul, Nat.reduceMul, ne_eq, eq_self, Option.isNone_some, Option.isNone_none, List.length_set, List.length_replicate, List.getElem?_cons_zero, List.getElem?_cons_succ, Qp0, Qe0, hC8, hm8, rdN_new, List.set_cons_zero, List.set_cons_succ, List.take_zero, List.drop_succ_cons, List.drop_zero, List.drop_nil, List.nil_append, List.append_nil, List.take_succ_cons, ite_true, PH.new_new]
      refine ⟨_, PH.Le.refl _, .inl ⟨⟨x1, x2, x3, x1, x4, x5, x6, x8, x7, x9⟩, A, cap, ⟨hr, hs0⟩, rfl, hcap, ?_⟩, hle8.new _ _ hrb⟩
      exact hrv8.chg (F := (· = rb)) ((Chg.refl _ _).one _) (fun a ea e => (hnA a ea).2.1 e)
    | false =>
      rw [hr] at hR
      have hR := Lib.hid hR
      simp -dsimp -implicitDefEqProofs (disch := first | omega | assumption | (simp only [Option.isSome_some, Qt0]; done) | (simp only [UInt64.reduceToNat, UInt32.reduceToNat, UInt8.reduceToNat, List.length_cons, List.length_nil, List.length_append, Int.toNat_natCast] <;> omega)) only [Nat.reduceLT, Nat.reduceLeDiff, Nat.reduceEqDiff, ↓reduceIte, beq_self_eq_true, List.getD_cons_zero, List.getD_cons_succ, Int.reduceLT, Int.reduceLE, Int.reduceToNat, Int.reduceEq, Int.reduceNe, Option.bind_some, List.map_cons, List.map_nil, List.zip_cons_cons, List.zip_nil_left, List.append_nil, List.nil_append, List.cons_append, List.length_cons, List.length_nil, Nat.reduceAdd, UInt8.reduceOfNat, UInt16.reduceOfNat, UInt32.reduceOfNat, UInt64.reduceOfNat, UInt64.reduceToNat, UInt32.reduceToNat, UInt16.reduceToNat, UInt8.reduceToNat, Int.reduceAdd, Int.reduceSub, Int.reduceMul, Nat.reduceMul, ne_eq, eq_self, Option.isNone_some, Option.isNone_none, List.length_set, List.length_replicate, List.getElem?_cons_zero, List.getElem?_cons_succ, Qp0, Qe0, hC8]
      refine hR.out.mono ?_
      rintro v hq ⟨rfl, hz⟩
      obtain rfl := hz.symm
      simp -dsimp -implicitDefEqProofs (disch := first | omega | assumption | (simp only [Option.isSome_some, Qt0]; done) | (simp only [UInt64.reduceToNat, UInt32.reduceToNat, UInt8.reduceToNat, List.length_cons, List.length_nil, List.length_append, Int.toNat_natCast] <;> omega)) only [Nat.reduceLT, Nat.reduceLeDiff, Nat.reduceEqDiff, ↓reduceIte, beq_self_eq_true, List.getD_cons_zero, List.getD_cons_succ, Int.reduceLT, Int.reduceLE, Int.reduceToNat, Int.reduceEq, Int.reduceNe, Option.bind_some, List.map_cons, List.map_nil, List.zip_cons_cons, List.zip_nil_left, List.append_nil, List.nil_append, List.cons_append, List.length_cons, List.length_nil, Nat.reduceAdd, UInt8.reduceOfNat, UInt16.reduceOfNat, UInt32.reduceOfNat, UInt64.reduceOfNat, UInt64.reduceToNat, UInt32.reduceToNat, UInt16.reduceToNat, UInt8.reduceToNat, Int.reduceAdd, Int.reduceSub, Int.reduceMul, Nat.reduceMul, ne_eq, eq_self, Option.isNone_some, Option.isNone_none, List.length_set, List.length_replicate, List.getElem?_cons_zero, List.getElem?_cons_succ, Qp0, Qe0]
      refine (at_any wireT _ _ _ w0 _).mono ?_
      rintro v q9 ⟨be, rfl, hbe, rfl⟩
      have hl9 := (PH.Le.refl q8).new be ⟨[str wireT, .int .i64 0, .iface 57 (.int .i64 2)], 3⟩ hbe
      have hmb : (q8.new be ⟨[str wireT, .int .i64 0, .iface 57 (.int .i64 2)], 3⟩).m be = some ⟨[str wireT, .int .i64 0, .iface 57 (.int .i64 2)], 3⟩ := by rw [PH.new_m, if_pos rfl]
      have hm9 := hl9.m _ _ hm8
      have hnb : be ≠ rb := by have := q8.lt _ _ hm8; omega
      generalize q8.new be ⟨[str wireT, .int .i64 0, .iface 57 (.int .i64 2)], 3⟩ = q9 at *
      unfold errV
      simp -dsimp -implicitDefEqProofs (disch := first | omega | assumption | (simp only [Option.isSome_some, Qt0]; done) | (simp only [UInt64.reduceToNat, UInt32.reduceToNat, UInt8.reduceToNat, List.length_cons, List.length_nil, List.length_append, Int.toNat_natCast] <;> omega)) only [Nat.reduceLT, Nat.reduceLeDiff, Nat.reduceEqDiff, ↓reduceIte, beq_self_eq_true, List.getD_cons_zero, List.getD_cons_succ, Int.reduceLT, Int.reduceLE, Int.reduceToNat, Int.reduceEq, Int.reduceNe, Option.bind_some, List.map_cons, List.map_nil, List.zip_cons_cons, List.zip_nil_left, List.append_nil, List.nil_append, List.cons_append, List.length_cons, List.length_nil, Nat.reduceAdd, UInt8.reduceOfNat, UInt16.reduceOfNat, UInt32.reduceOfNat, UInt64.reduceOfNat, UInt64.reduceToNat, UInt32.reduceToNat, UInt16.reduceToNat, UInt8.reduceToNat, Int.reduceAdd, Int.reduceSub, Int.reduceMul, Nat.reduceMul, ne_eq, eq_self, Option.isNone_some, Option.isNone_none, List.length_set, List.length_replicate, List.getElem?_cons_zero, List.getElem?_cons_succ, Qp0, Qe0, hm9, rdN_new, List.set_cons_zero, List.set_cons_succ, List.take_zero, List.drop_succ_cons, List.drop_zero, List.drop_nil, List.nil_append, List.append_nil, List.take_succ_cons, ite_true, PH.new_new]
      refine ⟨_, PH.Le.refl _, .inr ⟨fun d hd => ?_, _, .wrap wireT 0 (.code 2), rfl, ⟨be, _, rfl, by rw [PH.new_m, if_neg hnb]; exact hmb, rfl⟩, rfl⟩, (hle8.trans hl9).new _ _ hrb⟩
      obtain ⟨h5, _⟩ := hch.fwd (by omega) (by omega) (by omega) (by omega) (by omega) hd
      rw [h5] at hd
      rw [hd.1] at hr; cases hr
  · unfold errV
    have hnb : be ≠ rb := fun e => by
      rw [e, hm8] at hbe
      injection hbe with hbe
      injection hbe with _ hbe
      omega
    simp -dsimp -implicitDefEqProofs (disch := first | omega | assumption | (simp only [Option.isSome_some, Qt0]; done) | (simp only [UInt64.reduceToNat, UInt32.reduceToNat, UInt8.reduceToNat, List.length_cons, List.length_nil, List.length_append, Int.toNat_natCast] <;> omega)) only [Nat.reduceLT, Nat.reduceLeDiff, Nat.reduceEqDiff, ↓reduceIte, beq_self_eq_true, List.getD_cons_zero, List.getD_cons_succ, Int.reduceLT, Int.reduceLE, Int.reduceToNat, Int.reduceEq, Int.reduceNe, Option.bind_some, List.map_cons, List.map_nil, List.zip_cons_cons, List.zip_nil_left, List.append_nil, List.nil_append, List.cons_append, List.length_cons, List.length_nil, Nat.reduceAdd, UInt8.reduceOfNat, UInt16.reduceOfNat, UInt32.reduceOfNat, UInt64.reduceOfNat, UInt64.reduceToNat, UInt32.reduceToNat, UInt16.reduceToNat, UInt8.reduceToNat, Int.reduceAdd, Int.reduceSub, Int.reduceMul, Nat.reduceMul, ne_eq, eq_self, Option.isNone_some, Option.isNone_none, List.length_set, List.length_replicate, List.getElem?_cons_zero, List.getElem?_cons_succ, Qp0, Qe0, hm8, rdN_new, List.set_cons_zero, List.set_cons_succ, List.take_zero, List.drop_succ_cons, List.drop_zero, List.drop_nil, List.nil_append, List.append_nil, List.take_succ_cons, ite_true, PH.new_new]
    refine ⟨_, PH.Le.refl _, .inr ⟨fun d hd => ?_, _, .wrap wireT p (.code 2), rfl, ⟨be, _, rfl, by rw [PH.new_m, if_neg hnb]; exact hbe, rfl⟩, rfl⟩, hle8.new _ _ hrb⟩
    exact hn (hch.fwd (by omega) (by omega) (by omega) (by omega) (by omega) hd).2
end Go.Proofs.Ytjpfablpkekdgaa
