/- Cookie headers: pairs that are read and held against each other; awake. No condition. -/
import Derived.Test.YtefkgpcdabmkkaaCk2
import Derived.Laws.StructEq
namespace Go.Proofs.Ytefkgpcdabmkkaa
set_option linter.unusedVariables false
set_option linter.unusedSimpArgs false
open Go.RowKit Px Tx Ck
set_option maxRecDepth 20000 in
theorem run_eqPair (a b c d : List UInt8) (w : World) : (Op.equalIn 10000 31 (.agg #[str a, str b]) (.agg #[str c, str d])).run Try.prog w = .ok (decide (a = c) && decide (b = d)) w := by
  have hu : Try.prog.underlying 31 = some (.struct (Try.prog.fieldsOf 31)) := by kernel_rfl
  rw [run_equalIn_agg w 9999 _ _ _ hu (by kernel_rfl)]
  have p0 : ∀ u v : List UInt8, (part 9 #[str u, str v] 0).run Try.prog w = .ok (str u) w := fun u v => by
    simp [part, isAgg, run_underlying (w := w) Try.underlying9, sizeOf]
  have p1 : ∀ u v : List UInt8, (part 9 #[str u, str v] 1).run Try.prog w = .ok (str v) w := fun u v => by
    simp [part, isAgg, run_underlying (w := w) Try.underlying9, sizeOf]
  have hs : ∀ u v : List UInt8, (Op.equalIn 9999 9 (str u) (str v)).run Try.prog w = .ok (decide (u = v)) w := fun u v => by
    unfold str
    rw [run_equalIn_string w 9998 9 _ _ Try.underlying9]
    congr 1
    rw [ByteArray.toList_eq, ByteArray.toList_eq]
    by_cases e : u = v
    · simp [e]
    · simp [e]
  simp only [Program.fieldsOf, Try.underlying31, Op.eqFields]
  by_cases e1 : a = c
  · subst e1
    by_cases e2 : b = d
    · subst e2; simp [Sem.run_pure, p0, p1, Result.andThen_ok, hs, Op.eqFields]
    · simp [Sem.run_pure, p0, p1, Result.andThen_ok, hs, Op.eqFields, e2]
  · simp [Sem.run_pure, p0, p1, Result.andThen_ok, hs, Op.eqFields, e1]
theorem y_eqlPair (x y : Operand) (a b c d : List UInt8) {K : Value → Prop} : Yld Try.prog (binS .eql 31 x y (.agg #[str a, str b]) (.agg #[str c, str d])) K = K (.bool (decide (a = c) && decide (b = d))) := Yld_eq fun w => by
  have hg : (eqGuard .eql 31 x y (.agg #[str a, str b]) (.agg #[str c, str d])).run Try.prog w = .ok () w := run_eqGuard_agg w _ _ x y _ _ (by kernel_rfl)
  unfold binS
  simp only [Sem.run_bind, hg, Result.andThen_ok]
  rw [run_eql_struct, run_eqPair]; rfl
theorem y_neqPair (x y : Operand) (a b c d : List UInt8) {K : Value → Prop} : Yld Try.prog (binS .neq 31 x y (.agg #[str a, str b]) (.agg #[str c, str d])) K = K (.bool (!(decide (a = c) && decide (b = d)))) := Yld_eq fun w => by
  have hg : (eqGuard .neq 31 x y (.agg #[str a, str b]) (.agg #[str c, str d])).run Try.prog w = .ok () w := run_eqGuard_agg w _ _ x y _ _ (by kernel_rfl)
  unfold binS
  simp only [Sem.run_bind, hg, Result.andThen_ok]
  rw [run_neq_struct, run_eqPair]; rfl
/-- A row of pairs that is read. -/
def Prs (w0 : World) (h : PH) (A : Option Addr) (l : List Pr) : Prop := ∀ (i : Nat) (p : Pr), l[i]? = some p → ∃ b o, A = some ⟨b, o, none⟩ ∧ ∀ h', PH.Le h h' → Low w0 h' → rdN w0 h' ⟨b, o + i * 2, none⟩ 2 = some (pr1 p)
theorem Prs.more {w0 : World} {h h' : PH} {A : Option Addr} {l : List Pr} (r : Prs w0 h A l) (k : PH.Le h h') : Prs w0 h' A l := fun i p e => by
  obtain ⟨b, o, h1, h2⟩ := r i p e
  exact ⟨b, o, h1, fun h3 l3 => h2 h3 (k.trans l3)⟩
theorem Prs.addr {w0 : World} {h : PH} {A : Option Addr} {l : List Pr} (r : Prs w0 h A l) (hn : 0 < l.length) : ∃ b o, A = some ⟨b, o, none⟩ := by
  obtain ⟨b, o, h1, _⟩ := r 0 _ (List.getElem?_eq_getElem hn)
  exact ⟨b, o, h1⟩
theorem Prs.get {w0 : World} {h : PH} {b o : Nat} {l : List Pr} (r : Prs w0 h (some ⟨b, o, none⟩) l) (hl : Low w0 h) {i : Nat} {p : Pr} (e : l[i]? = some p) : rdN w0 h ⟨b, o + i * 2, none⟩ 2 = some [str p.1, str p.2] := by
  obtain ⟨b', o', h1, h2⟩ := r i p e
  injection h1 with h1
  injection h1 with h1 h3
  subst h1; subst h3
  exact h2 h (PH.Le.refl _) hl
theorem prs_chunk : ∀ (l : List Pr) (i : Nat) (p : Pr), l[i]? = some p → ((prs l).drop (i * 2)).take 2 = pr1 p ∧ i * 2 + 2 ≤ (prs l).length
  | [], i, p, h => by simp at h
  | q :: l, 0, p, h => by simp at h; subst h; simp [prs, pr1]
  | q :: l, i + 1, p, h => by
    obtain ⟨h1, h2⟩ := prs_chunk l i p (by simpa using h)
    have e : prs (q :: l) = str q.1 :: str q.2 :: prs l := by simp [prs, pr1]
    rw [e, show (i + 1) * 2 = i * 2 + 1 + 1 by omega]
    exact ⟨by simpa using h1, by simp; omega⟩
theorem Prs.own {w0 : World} {h : PH} {A : Option Addr} {c : Nat} {l : List Pr} (o : Own h 2 (.slice A l.length c) l.length (prs l)) : Prs w0 h A l := fun i p e => by
  have hi := (List.getElem?_eq_some_iff.1 e).1
  obtain ⟨b, c', h1, _, h3⟩ := o.pos (by omega)
  injection h1 with h1
  subst h1
  refine ⟨b, 0, rfl, fun h' hl _ => ?_⟩
  obtain ⟨g1, g2⟩ := prs_chunk l i p e
  unfold rdN
  simp only [hl.m _ _ h3]
  rw [if_pos ⟨trivial, by omega⟩, Nat.zero_add, g1]
set_option maxRecDepth 20000 in
set_option maxHeartbeats 2000000 in
theorem rsame_any (w0 : World) (h : PH) (A B : Option Addr) (c d : Nat) (x y : List Pr) (hx : Prs w0 h A x) (hy : Prs w0 h B y) (hc : x.length ≤ c) (hd : y.length ≤ d) (hm : x.length ≤ 1000000) : PCalls Try.prog w0 7 [.slice A x.length c, .slice B y.length d] h fun r h' => r = .bool (decide (x = y)) ∧ h' = h := by
  refine PCalls_low fun hl => ?_
  refine PCalls_body Try.func7 (by kernel_rfl) rfl _ Try.ntmps7 (by kernel_rfl) (by kernel_rfl) _ Try.results7 ?_
  by_cases hlen : x.length = y.length
  · have e1 : decide (¬ (x.length : Int) = (y.length : Int)) = false := decide_eq_false (by omega)
    simp -dsimp -implicitDefEqProofs (disch := first | omega | assumption | (simp only [Option.isSome_some, Qt0]; done) | (simp only [UInt64.reduceToNat, UInt32.reduceToNat, UInt8.reduceToNat, List.length_cons, List.length_nil, List.length_append, Int.toNat_natCast] <;> omega)) only [Nat.reduceLT, Nat.reduceLeDiff, Nat.reduceEqDiff, ↓reduceIte, beq_self_eq_true, List.getD_cons_zero, List.getD_cons_succ, Int.reduceLT, Int.reduceLE, Int.reduceToNat, Int.reduceEq, Int.reduceNe, Option.bind_some, List.map_cons, List.map_nil, List.zip_cons_cons, List.zip_nil_left, List.append_nil, List.nil_append, List.cons_append, List.length_cons, List.length_nil, Nat.reduceAdd, UInt8.reduceOfNat, UInt16.reduceOfNat, UInt32.reduceOfNat, UInt64.reduceOfNat, UInt64.reduceToNat, UInt32.reduceToNat, UInt16.reduceToNat, UInt8.reduceToNat, Int.reduceAdd, Int.reduceSub, Int.reduceMul, Nat.reduceMul, ne_eq, eq_self, Option.isNone_some, Option.isNone_none, List.length_set, List.length_replicate, List.getElem?_cons_zero, List.getElem?_cons_succ, Qp0, Qe0, e1]
    refine PW_loop (fun n f h' => ∃ i : Nat, n + i = x.length ∧ f 0 = some (.slice A x.length c) ∧ f 1 = some (.slice B y.length d) ∧ f 5 = some (.int .i64 i) ∧ (∀ j, j < i → x[j]? = y[j]?) ∧ h' = h) (by kernel_rfl) x.length ⟨0, by omega, ?_, ?_, ?_, fun j hj => by omega, rfl⟩ ?_
    · simp -dsimp -implicitDefEqProofs (disch := first | omega | assumption | (simp only [Option.isSome_some, Qt0]; done) | (simp only [UInt64.reduceToNat, UInt32.reduceToNat, UInt8.reduceToNat, List.length_cons, List.length_nil, List.length_append, Int.toNat_natCast] <;> omega)) only [Nat.reduceLT, Nat.reduceLeDiff, Nat.reduceEqDiff, ↓reduceIte, beq_self_eq_true, List.getD_cons_zero, List.getD_cons_succ, Int.reduceLT, Int.reduceLE, Int.reduceToNat, Int.reduceEq, Int.reduceNe, Option.bind_some, List.map_cons, List.map_nil, List.zip_cons_cons, List.zip_nil_left, List.append_nil, List.nil_append, List.cons_append, List.length_cons, List.length_nil, Nat.reduceAdd, UInt8.reduceOfNat, UInt16.reduceOfNat, UInt32.reduceOfNat, UInt64.reduceOfNat, UInt64.reduceToNat, UInt32.reduceToNat, UInt16.reduceToNat, UInt8.reduceToNat, Int.reduceAdd, Int.reduceSub, Int.reduceMul, Nat.reduceMul, ne_eq, eq_self, Option.isNone_some, Option.isNone_none, List.length_set, List.length_replicate, List.getElem?_cons_zero, List.getElem?_cons_succ, Qp0, Qe0]
    · simp -dsimp -implicitDefEqProofs (disch := first | omega | assumption | (simp only [Option.isSome_some, Qt0]; done) | (simp only [UInt64.reduceToNat, UInt32.reduceToNat, UInt8.reduceToNat, List.length_cons, List.length_nil, List.length_append, Int.toNat_natCast] <;> omega)) only [Nat.reduceLT, Nat.reduceLeDiff, Nat.reduceEqDiff, ↓reduceIte, beq_self_eq_true, List.getD_cons_zero, List.getD_cons_succ, Int.reduceLT, Int.reduceLE, Int.reduceToNat, Int.reduceEq, Int.reduceNe, Option.bind_some, List.map_cons, List.map_nil, List.zip_cons_cons, List.zip_nil_left, List.append_nil, List.nil_append, List.cons_append, List.length_cons, List.length_nil, Nat.reduceAdd, UInt8.reduceOfNat, UInt16.reduceOfNat, UInt32.reduceOfNat, UInt64.reduceOfNat, UInt64.reduceToNat, UInt32.reduceToNat, UInt16.reduceToNat, UInt8.reduceToNat, Int.reduceAdd, Int.reduceSub, Int.reduceMul, Nat.reduceMul, ne_eq, eq_self, Option.isNone_some, Option.isNone_none, List.length_set, List.length_replicate, List.getElem?_cons_zero, List.getElem?_cons_succ, Qp0, Qe0]
    · simp -dsimp -implicitDefEqProofs (disch := first | omega | assumption | (simp only [Option.isSome_some, Qt0]; done) | (simp only [UInt64.reduceToNat, UInt32.reduceToNat, UInt8.reduceToNat, List.length_cons, List.length_nil, List.length_append, Int.toNat_natCast] <;> omega)) only [Nat.reduceLT, Nat.reduceLeDiff, Nat.reduceEqDiff, ↓reduceIte, beq_self_eq_true, List.getD_cons_zero, List.getD_cons_succ, Int.reduceLT, Int.reduceLE, Int.reduceToNat, Int.reduceEq, Int.reduceNe, Option.bind_some, List.map_cons, List.map_nil, List.zip_cons_cons, List.zip_nil_left, List.append_nil, List.nil_append, List.cons_append, List.length_cons, List.length_nil, Nat.reduceAdd, UInt8.reduceOfNat, UInt16.reduceOfNat, UInt32.reduceOfNat, UInt64.reduceOfNat, UInt64.reduceToNat, UInt32.reduceToNat, UInt16.reduceToNat, UInt8.reduceToNat, Int.reduceAdd, Int.reduceSub, Int.reduceMul, Nat.reduceMul, ne_eq, eq_self, Option.isNone_some, Option.isNone_none, List.length_set, List.length_replicate, List.getElem?_cons_zero, List.getElem?_cons_succ, Qp0, Qe0]
      try rfl
    rintro n f h' ⟨i, hni, f0, f1, f5, hall, rfl⟩
    by_cases hi : i < x.length
    · have e2 : decide ((i : Int) < (x.length : Int)) = true := decide_eq_true (by omega)
      obtain ⟨b, o, rfl⟩ := hx.addr (by omega)
      obtain ⟨b', o', rfl⟩ := hy.addr (by omega)
      obtain ⟨p, hp⟩ : ∃ p, x[i]? = some p := ⟨_, List.getElem?_eq_getElem hi⟩
      obtain ⟨q, hq⟩ : ∃ p, y[i]? = some p := ⟨_, List.getElem?_eq_getElem (by omega)⟩
      have hgx := hx.get hl hp
      have hgy := hy.get hl hq
      by_cases he : p = q
      · subst he
        have e3 : decide (p.1 = p.1) = true := decide_eq_true rfl
        have e4 : decide (p.2 = p.2) = true := decide_eq_true rfl
        simp -dsimp -implicitDefEqProofs (disch := first | omega | assumption | (simp only [Option.isSome_some, Qt0]; done) | (simp only [UInt64.reduceToNat, UInt32.reduceToNat, UInt8.reduceToNat, List.length_cons, List.length_nil, List.length_append, Int.toNat_natCast] <;> omega)) only [Nat.reduceLT, Nat.reduceLeDiff, Nat.reduceEqDiff, ↓reduceIte, beq_self_eq_true, List.getD_cons_zero, List.getD_cons_succ, Int.reduceLT, Int.reduceLE, Int.reduceToNat, Int.reduceEq, Int.reduceNe, Option.bind_some, List.map_cons, List.map_nil, List.zip_cons_cons, List.zip_nil_left, List.append_nil, List.nil_append, List.cons_append, List.length_cons, List.length_nil, Nat.reduceAdd, UInt8.reduceOfNat, UInt16.reduceOfNat, UInt32.reduceOfNat, UInt64.reduceOfNat, UInt64.reduceToNat, UInt32.reduceToNat, UInt16.reduceToNat, UInt8.reduceToNat, Int.reduceAdd, Int.reduceSub, Int.reduceMul, Nat.reduceMul, ne_eq, eq_self, Option.isNone_some, Option.isNone_none, List.length_set, List.length_replicate, List.getElem?_cons_zero, List.getElem?_cons_succ, Qp0, Qe0, f0, f1, f5, e2]
        refine PW_drawn 9 _ (by kernel_rfl) (by kernel_rfl) (by kernel_rfl) (by kernel_rfl) (by kernel_rfl) (fun c f h hq => by simp only [thenC_panic, thenK_panic, inBlk_panic, thenN_panic, vcRet_panic] at hq) (PH.Le.refl _).sub ?_
        simp -dsimp -implicitDefEqProofs (disch := first | omega | assumption | (simp only [Option.isSome_some, Qt0]; done) | (simp only [UInt64.reduceToNat, UInt32.reduceToNat, UInt8.reduceToNat, List.length_cons, List.length_nil, List.length_append, Int.toNat_natCast] <;> omega)) only [Nat.reduceLT, Nat.reduceLeDiff, Nat.reduceEqDiff, ↓reduceIte, beq_self_eq_true, List.getD_cons_zero, List.getD_cons_succ, Int.reduceLT, Int.reduceLE, Int.reduceToNat, Int.reduceEq, Int.reduceNe, Option.bind_some, List.map_cons, List.map_nil, List.zip_cons_cons, List.zip_nil_left, List.append_nil, List.nil_append, List.cons_append, List.length_cons, List.length_nil, Nat.reduceAdd, UInt8.reduceOfNat, UInt16.reduceOfNat, UInt32.reduceOfNat, UInt64.reduceOfNat, UInt64.reduceToNat, UInt32.reduceToNat, UInt16.reduceToNat, UInt8.reduceToNat, Int.reduceAdd, Int.reduceSub, Int.reduceMul, Nat.reduceMul, ne_eq, eq_self, Option.isNone_some, Option.isNone_none, List.length_set, List.length_replicate, List.getElem?_cons_zero, List.getElem?_cons_succ, Qp0, Qe0, f0, f1, f5, hgx, hgy, y_neqPair, e3, e4]
        refine ⟨n - 1, _, by omega, PH.Le.refl _, i + 1, by omega, by trivial, by trivial, by simp, fun j hj => ?_, rfl⟩
        by_cases hji : j = i
        · subst hji; rw [hp, hq]
        · exact hall j (by omega)
      · have e3 : (decide (p.1 = q.1) && decide (p.2 = q.2)) = false := by
          rw [Bool.and_eq_false_iff, decide_eq_false_iff_not, decide_eq_false_iff_not]
          by_cases h1 : p.1 = q.1
          · exact .inr fun h2 => he (Prod.ext h1 h2)
          · exact .inl h1
        have hne : decide (x = y) = false := decide_eq_false fun e => he (by rw [e, hq] at hp; exact (Option.some.inj hp).symm)
        rw [hne]
        simp -dsimp -implicitDefEqProofs (disch := first | omega | assumption | (simp only [Option.isSome_some, Qt0]; done) | (simp only [UInt64.reduceToNat, UInt32.reduceToNat, UInt8.reduceToNat, List.length_cons, List.length_nil, List.length_append, Int.toNat_natCast] <;> omega)) only [Nat.reduceLT, Nat.reduceLeDiff, Nat.reduceEqDiff, ↓reduceIte, beq_self_eq_true, List.getD_cons_zero, List.getD_cons_succ, Int.reduceLT, Int.reduceLE, Int.reduceToNat, Int.reduceEq, Int.reduceNe, Option.bind_some, List.map_cons, List.map_nil, List.zip_cons_cons, List.zip_nil_left, List.append_nil, List.nil_append, List.cons_append, List.length_cons, List.length_nil, Nat.reduceAdd, UInt8.reduceOfNat, UInt16.reduceOfNat, UInt32.reduceOfNat, UInt64.reduceOfNat, UInt64.reduceToNat, UInt32.reduceToNat, UInt16.reduceToNat, UInt8.reduceToNat, Int.reduceAdd, Int.reduceSub, Int.reduceMul, Nat.reduceMul, ne_eq, eq_self, Option.isNone_some, Option.isNone_none, List.length_set, List.length_replicate, List.getElem?_cons_zero, List.getElem?_cons_succ, Qp0, Qe0, f0, f1, f5, e2]
        refine PW_drawn 9 _ (by kernel_rfl) (by kernel_rfl) (by kernel_rfl) (by kernel_rfl) (by kernel_rfl) (fun c f h hq => by simp only [thenC_panic, thenK_panic, inBlk_panic, thenN_panic, vcRet_panic] at hq) (PH.Le.refl _).sub ?_
        simp -dsimp -implicitDefEqProofs (disch := first | omega | assumption | (simp only [Option.isSome_some, Qt0]; done) | (simp only [UInt64.reduceToNat, UInt32.reduceToNat, UInt8.reduceToNat, List.length_cons, List.length_nil, List.length_append, Int.toNat_natCast] <;> omega)) only [Nat.reduceLT, Nat.reduceLeDiff, Nat.reduceEqDiff, ↓reduceIte, beq_self_eq_true, List.getD_cons_zero, List.getD_cons_succ, Int.reduceLT, Int.reduceLE, Int.reduceToNat, Int.reduceEq, Int.reduceNe, Option.bind_some, List.map_cons, List.map_nil, List.zip_cons_cons, List.zip_nil_left, List.append_nil, List.nil_append, List.cons_append, List.length_cons, List.length_nil, Nat.reduceAdd, UInt8.reduceOfNat, UInt16.reduceOfNat, UInt32.reduceOfNat, UInt64.reduceOfNat, UInt64.reduceToNat, UInt32.reduceToNat, UInt16.reduceToNat, UInt8.reduceToNat, Int.reduceAdd, Int.reduceSub, Int.reduceMul, Nat.reduceMul, ne_eq, eq_self, Option.isNone_some, Option.isNone_none, List.length_set, List.length_replicate, List.getElem?_cons_zero, List.getElem?_cons_succ, Qp0, Qe0, f0, f1, f5, hgx, hgy, y_neqPair, e3]
        exact ⟨_, PH.Le.refl _, by first | rfl | trivial, rfl⟩
    · have e2 : decide ((i : Int) < (x.length : Int)) = false := decide_eq_false (by omega)
      have heq : decide (x = y) = true := decide_eq_true (List.ext_getElem? fun j => by
        by_cases hj : j < x.length
        · exact hall j (by omega)
        · rw [List.getElem?_eq_none (by omega), List.getElem?_eq_none (by omega)])
      rw [heq]
      simp -dsimp -implicitDefEqProofs (disch := first | omega | assumption | (simp only [Option.isSome_some, Qt0]; done) | (simp only [UInt64.reduceToNat, UInt32.reduceToNat, UInt8.reduceToNat, List.length_cons, List.length_nil, List.length_append, Int.toNat_natCast] <;> omega)) only [Nat.reduceLT, Nat.reduceLeDiff, Nat.reduceEqDiff, ↓reduceIte, beq_self_eq_true, List.getD_cons_zero, List.getD_cons_succ, Int.reduceLT, Int.reduceLE, Int.reduceToNat, Int.reduceEq, Int.reduceNe, Option.bind_some, List.map_cons, List.map_nil, List.zip_cons_cons, List.zip_nil_left, List.append_nil, List.nil_append, List.cons_append, List.length_cons, List.length_nil, Nat.reduceAdd, UInt8.reduceOfNat, UInt16.reduceOfNat, UInt32.reduceOfNat, UInt64.reduceOfNat, UInt64.reduceToNat, UInt32.reduceToNat, UInt16.reduceToNat, UInt8.reduceToNat, Int.reduceAdd, Int.reduceSub, Int.reduceMul, Nat.reduceMul, ne_eq, eq_self, Option.isNone_some, Option.isNone_none, List.length_set, List.length_replicate, List.getElem?_cons_zero, List.getElem?_cons_succ, Qp0, Qe0, f0, f1, f5, e2]
      exact ⟨_, PH.Le.refl _, by first | rfl | trivial, rfl⟩
  · have e1 : decide (¬ (x.length : Int) = (y.length : Int)) = true := decide_eq_true (by omega)
    have hne : decide (x = y) = false := decide_eq_false fun e => hlen (by rw [e])
    rw [hne]
    simp -dsimp -implicitDefEqProofs (disch := first | omega | assumption | (simp only [Option.isSome_some, Qt0]; done) | (simp only [UInt64.reduceToNat, UInt32.reduceToNat, UInt8.reduceToNat, List.length_cons, List.length_nil, List.length_append, Int.toNat_natCast] <;> omega)) only [Nat.reduceLT, Nat.reduceLeDiff, Nat.reduceEqDiff, ↓reduceIte, beq_self_eq_true, List.getD_cons_zero, List.getD_cons_succ, Int.reduceLT, Int.reduceLE, Int.reduceToNat, Int.reduceEq, Int.reduceNe, Option.bind_some, List.map_cons, List.map_nil, List.zip_cons_cons, List.zip_nil_left, List.append_nil, List.nil_append, List.cons_append, List.length_cons, List.length_nil, Nat.reduceAdd, UInt8.reduceOfNat, UInt16.reduceOfNat, UInt32.reduceOfNat, UInt64.reduceOfNat, UInt64.reduceToNat, UInt32.reduceToNat, UInt16.reduceToNat, UInt8.reduceToNat, Int.reduceAdd, Int.reduceSub, Int.reduceMul, Nat.reduceMul, ne_eq, eq_self, Option.isNone_some, Option.isNone_none, List.length_set, List.length_replicate, List.getElem?_cons_zero, List.getElem?_cons_succ, Qp0, Qe0, e1]
    exact ⟨_, PH.Le.refl _, by first | rfl | trivial, rfl⟩
theorem pars_len : ∀ (n : Nat) (t : List UInt8) (l : List Pr), pars n t = .inl l → l.length ≤ t.length
  | 0, t, l, h => by unfold pars at h; cases h
  | n + 1, t, l, h => by
    cases step_of t with
    | noName hh e => rw [e] at h; cases h
    | noEq a r ht ha hp hh hr hs e => rw [e] at h; cases h
    | last a v ht ha hp hv hh h2 e => rw [e] at h; cases h; rw [ht]; simp; omega
    | noSemi a v c r ht ha hp hv hh h2 hc h59 e => rw [e] at h; cases h
    | noBlank a v r ht ha hp hv hh h2 hr e => rw [e] at h; cases h
    | more a v r ht ha hp hv hh h2 e =>
      rw [e] at h
      cases hp2 : pars n r with
      | inr k => rw [hp2] at h; cases h
      | inl m =>
        rw [hp2] at h
        cases h
        have := pars_len n r m hp2
        rw [ht]; simp; omega
theorem parse_len {s : List UInt8} {l : List Pr} (h : parse s = .inl l) : l.length ≤ s.length := by
  unfold parse at h
  split at h
  · cases h; simp
  · exact pars_len _ _ _ h
theorem awake_parse : parse [97, 61, 49, 59, 32, 98, 61] = .inl [([97], [49]), ([98], [])] := by decide +kernel
set_option maxRecDepth 20000 in
set_option maxHeartbeats 1000000 in
theorem awake_any (w0 : World) (h : PH) : PCalls Try.prog w0 5 [] h fun v h' => v = .bool true ∧ PH.Le h h' := by
  refine PCalls_body Try.func5 (by kernel_rfl) rfl _ Try.ntmps5 (by kernel_rfl) (by kernel_rfl) _ Try.results5 ?_
  have hP := Lib.hid (parse_any [97, 61, 49, 59, 32, 98, 61] (by simp) w0 h).lowR
  simp -dsimp -implicitDefEqProofs (disch := first | omega | assumption | (simp only [Option.isSome_some, Qt0]; done) | (simp only [UInt64.reduceToNat, UInt32.reduceToNat, UInt8.reduceToNat, List.length_cons, List.length_nil, List.length_append, Int.toNat_natCast] <;> omega)) only [Nat.reduceLT, Nat.reduceLeDiff, Nat.reduceEqDiff, ↓reduceIte, beq_self_eq_true, List.getD_cons_zero, List.getD_cons_succ, Int.reduceLT, Int.reduceLE, Int.reduceToNat, Int.reduceEq, Int.reduceNe, Option.bind_some, List.map_cons, List.map_nil, List.zip_cons_cons, List.zip_nil_left, List.append_nil, List.nil_append, List.cons_append, List.length_cons, List.length_nil, Nat.reduceAdd, UInt8.reduceOfNat, UInt16.reduceOfNat, UInt32.reduceOfNat, UInt64.reduceOfNat, UInt64.reduceToNat, UInt32.reduceToNat, UInt16.reduceToNat, UInt8.reduceToNat, Int.reduceAdd, Int.reduceSub, Int.reduceMul, Nat.reduceMul, ne_eq, eq_self, Option.isNone_some, Option.isNone_none, List.length_set, List.length_replicate, List.getElem?_cons_zero, List.getElem?_cons_succ, Qp0, Qe0]
  refine hP.out.mono ?_
  rintro v q ⟨hp, hl⟩
  unfold PARSE at hp
  rw [awake_parse] at hp
  obtain ⟨v, rfl, how⟩ := hp
  obtain ⟨A, c, rfl, hc⟩ := how.own.len
  obtain ⟨b, o, rfl⟩ := (Prs.own (w0 := w0) how.own).addr (by simp)
  have g0 := (Prs.own (w0 := w0) how.own).get hl (i := 0) rfl
  have g1 := (Prs.own (w0 := w0) how.own).get hl (i := 1) rfl
  simp only [Nat.zero_mul, Nat.add_zero, Nat.one_mul] at g0 g1
  have e1 : decide (([97] : List UInt8) = [97]) = true := decide_eq_true rfl
  have e2 : decide (([49] : List UInt8) = [49]) = true := decide_eq_true rfl
  have e3 : decide (([98] : List UInt8) = [98]) = true := decide_eq_true rfl
  have e4 : decide (([] : List UInt8) = []) = true := decide_eq_true rfl
  have hz : Value.string ⟨#[]⟩ = str [] := rfl
  simp -dsimp -implicitDefEqProofs (disch := first | omega | assumption | (simp only [Option.isSome_some, Qt0]; done) | (simp only [UInt64.reduceToNat, UInt32.reduceToNat, UInt8.reduceToNat, List.length_cons, List.length_nil, List.length_append, Int.toNat_natCast] <;> omega)) only [Nat.reduceLT, Nat.reduceLeDiff, Nat.reduceEqDiff, ↓reduceIte, beq_self_eq_true, List.getD_cons_zero, List.getD_cons_succ, Int.reduceLT, Int.reduceLE, Int.reduceToNat, Int.reduceEq, Int.reduceNe, Option.bind_some, List.map_cons, List.map_nil, List.zip_cons_cons, List.zip_nil_left, List.append_nil, List.nil_append, List.cons_append, List.length_cons, List.length_nil, Nat.reduceAdd, UInt8.reduceOfNat, UInt16.reduceOfNat, UInt32.reduceOfNat, UInt64.reduceOfNat, UInt64.reduceToNat, UInt32.reduceToNat, UInt16.reduceToNat, UInt8.reduceToNat, Int.reduceAdd, Int.reduceSub, Int.reduceMul, Nat.reduceMul, ne_eq, eq_self, Option.isNone_some, Option.isNone_none, List.length_set, List.length_replicate, List.getElem?_cons_zero, List.getElem?_cons_succ, Qp0, Qe0, g0, g1, y_eqlPair, hz, e1, e2, e3, e4]
  exact ⟨_, PH.Le.refl _, by trivial, how.le⟩
end Go.Proofs.Ytefkgpcdabmkkaa
