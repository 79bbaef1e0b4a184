/- Cookie headers: Find, as the program and as the document do it. No condition. -/
import Derived.Test.YtefkgpcdabmkkaaDoorCk5
import Derived.Test.YtefkgpcdabmkkaaDoorEr
namespace Go.Proofs.YtefkgpcdabmkkaaDoor
set_option linter.unusedVariables false
set_option linter.unusedSimpArgs false
open Go.RowKit Px Tx Ck
/-- The value of the one pair with a name; or the error's number. -/
def findM (s name : List UInt8) : List UInt8 × Int :=
  if 4096 < s.length then ([], 3) else match parse s with
  | .inr _ => ([], 2)
  | .inl l => match l.filter (fun p => decide (p.1 = name)) with
    | [] => ([], 7)
    | [p] => (p.2, 0)
    | _ :: _ :: _ => ([], 8)
theorem filter_next {l : List Pr} {i : Nat} {p : Pr} (name : List UInt8) (h : l[i]? = some p) : (l.take (i + 1)).filter (fun p => decide (p.1 = name)) = (l.take i).filter (fun p => decide (p.1 = name)) ++ (if decide (p.1 = name) = true then [p] else []) := by
  rw [List.take_add_one, h]
  simp only [Option.toList_some, List.filter_append, List.filter_cons, List.filter_nil]
theorem filter_split (l : List Pr) (i : Nat) (q : Pr → Bool) : l.filter q = (l.take i).filter q ++ (l.drop i).filter q := by
  rw [← List.filter_append, List.take_append_drop]
theorem prs_get (l : List Pr) (i : Nat) (p : Pr) (hp : l[i]? = some p) (j : Nat) (hj : j < 2) : (prs l)[i * 2 + j]? = (pr1 p)[j]? := by
  have h := (prs_chunk l i p hp).1
  rw [← h, List.getElem?_take_of_lt hj, List.getElem?_drop]
theorem findM_long {s name : List UInt8} (h : 4096 < s.length) : findM s name = ([], 3) := by unfold findM; rw [if_pos h]
theorem findM_bad {s name : List UInt8} {k : Nat} (h : ¬ 4096 < s.length) (e : parse s = .inr k) : findM s name = ([], 2) := by unfold findM; rw [if_neg h, e]
theorem findM_none {s name : List UInt8} {l : List Pr} (h : ¬ 4096 < s.length) (e : parse s = .inl l) (hf : l.filter (fun p => decide (p.1 = name)) = []) : findM s name = ([], 7) := by unfold findM; rw [if_neg h, e]; simp only [hf]
theorem findM_one {s name : List UInt8} {l : List Pr} {p : Pr} (h : ¬ 4096 < s.length) (e : parse s = .inl l) (hf : l.filter (fun p => decide (p.1 = name)) = [p]) : findM s name = (p.2, 0) := by unfold findM; rw [if_neg h, e]; simp only [hf]
theorem findM_more {s name : List UInt8} {l : List Pr} {p q : Pr} {r : List Pr} (h : ¬ 4096 < s.length) (e : parse s = .inl l) (hf : l.filter (fun p => decide (p.1 = name)) = p :: q :: r) : findM s name = ([], 8) := by unfold findM; rw [if_neg h, e]; simp only [hf]
theorem own_blk {h : PH} {b n c : Nat} {xs : List Value} (o : Own h 2 (.slice (some ⟨b, 0, none⟩) n c) n xs) : h.m b = some ⟨xs, c * 2⟩ := by
  rcases o.2 with ⟨h1, _⟩ | ⟨b', c', h1, _, _, h4⟩
  · cases h1
  · injection h1 with h3 _ h5
    injection h3 with h3
    injection h3 with h3
    subst h3; subst h5
    exact h4
theorem own_some {h : PH} {A : Option Addr} {n c : Nat} {xs : List Value} (o : Own h 2 (.slice A n c) n xs) (hn : 0 < n) : ∃ b, A = some ⟨b, 0, none⟩ := by
  rcases o.2 with ⟨_, h2⟩ | ⟨b', c', h1, _⟩
  · omega
  · injection h1 with h3; exact ⟨b', h3⟩
set_option maxRecDepth 20000 in
set_option maxHeartbeats 4000000 in
theorem rfind_any (s name : List UInt8) (hs : s.length ≤ 100000) (w0 : World) (h : PH) : PCalls Tryd.prog w0 8 [str s, str name] h fun r h' => r = .tuple #[str (findM s name).1, .int .i64 (findM s name).2] ∧ PH.Le h h' := by
  refine PCalls_body Tryd.func8 (by kernel_rfl) rfl _ Tryd.ntmps8 (by kernel_rfl) (by kernel_rfl) _ Tryd.results8 ?_
  by_cases hlong : 4096 < s.length
  · have e0 : decide ((s.length : Int) > 4096) = true := decide_eq_true (by omega)
    rw [findM_long hlong]
    simp -dsimp -implicitDefEqProofs (disch := first | omega | assumption | (simp only [Option.isSome_some, Qt0]; done) | (simp only [UInt64.reduceToNat, UInt32.reduceToNat, UInt8.reduceToNat, List.length_cons, List.length_nil, List.length_append, Int.toNat_natCast] <;> omega)) only [Nat.reduceLT, Nat.reduceLeDiff, Nat.reduceEqDiff, ↓reduceIte, beq_self_eq_true, List.getD_cons_zero, List.getD_cons_succ, Int.reduceLT, Int.reduceLE, Int.reduceToNat, Int.reduceEq, Int.reduceNe, Option.bind_some, List.map_cons, List.map_nil, List.zip_cons_cons, List.zip_nil_left, List.append_nil, List.nil_append, List.cons_append, List.length_cons, List.length_nil, Nat.reduceAdd, UInt8.reduceOfNat, UInt16.reduceOfNat, UInt32.reduceOfNat, UInt64.reduceOfNat, UInt64.reduceToNat, UInt32.reduceToNat, UInt16.reduceToNat, UInt8.reduceToNat, Int.reduceAdd, Int.reduceSub, Int.reduceMul, Nat.reduceMul, ne_eq, eq_self, Option.isNone_some, Option.isNone_none, List.length_set, List.length_replicate, List.getElem?_cons_zero, List.getElem?_cons_succ, Qp0, Qe0, e0]
    exact ⟨_, PH.Le.refl _, by first | rfl | trivial, PH.Le.refl _⟩
  have e0 : decide ((s.length : Int) > 4096) = false := decide_eq_false (by omega)
  have hR := Lib.hid (rparse_any s hs w0 h)
  simp -dsimp -implicitDefEqProofs (disch := first | omega | assumption | (simp only [Option.isSome_some, Qt0]; done) | (simp only [UInt64.reduceToNat, UInt32.reduceToNat, UInt8.reduceToNat, List.length_cons, List.length_nil, List.length_append, Int.toNat_natCast] <;> omega)) only [Nat.reduceLT, Nat.reduceLeDiff, Nat.reduceEqDiff, ↓reduceIte, beq_self_eq_true, List.getD_cons_zero, List.getD_cons_succ, Int.reduceLT, Int.reduceLE, Int.reduceToNat, Int.reduceEq, Int.reduceNe, Option.bind_some, List.map_cons, List.map_nil, List.zip_cons_cons, List.zip_nil_left, List.append_nil, List.nil_append, List.cons_append, List.length_cons, List.length_nil, Nat.reduceAdd, UInt8.reduceOfNat, UInt16.reduceOfNat, UInt32.reduceOfNat, UInt64.reduceOfNat, UInt64.reduceToNat, UInt32.reduceToNat, UInt16.reduceToNat, UInt8.reduceToNat, Int.reduceAdd, Int.reduceSub, Int.reduceMul, Nat.reduceMul, ne_eq, eq_self, Option.isNone_some, Option.isNone_none, List.length_set, List.length_replicate, List.getElem?_cons_zero, List.getElem?_cons_succ, Qp0, Qe0, e0]
  refine hR.out.mono ?_
  intro v h1 hv
  unfold RPARSE at hv
  cases hp : parse s with
  | inr k =>
    rw [hp] at hv
    obtain ⟨rfl, hle⟩ := hv
    rw [findM_bad hlong hp]
    have e1 : decide (((s.length - k : Nat) : Int) ≥ 0) = true := decide_eq_true (by omega)
    simp -dsimp -implicitDefEqProofs (disch := first | omega | assumption | (simp only [Option.isSome_some, Qt0]; done) | (simp only [UInt64.reduceToNat, UInt32.reduceToNat, UInt8.reduceToNat, List.length_cons, List.length_nil, List.length_append, Int.toNat_natCast] <;> omega)) only [Nat.reduceLT, Nat.reduceLeDiff, Nat.reduceEqDiff, ↓reduceIte, beq_self_eq_true, List.getD_cons_zero, List.getD_cons_succ, Int.reduceLT, Int.reduceLE, Int.reduceToNat, Int.reduceEq, Int.reduceNe, Option.bind_some, List.map_cons, List.map_nil, List.zip_cons_cons, List.zip_nil_left, List.append_nil, List.nil_append, List.cons_append, List.length_cons, List.length_nil, Nat.reduceAdd, UInt8.reduceOfNat, UInt16.reduceOfNat, UInt32.reduceOfNat, UInt64.reduceOfNat, UInt64.reduceToNat, UInt32.reduceToNat, UInt16.reduceToNat, UInt8.reduceToNat, Int.reduceAdd, Int.reduceSub, Int.reduceMul, Nat.reduceMul, ne_eq, eq_self, Option.isNone_some, Option.isNone_none, List.length_set, List.length_replicate, List.getElem?_cons_zero, List.getElem?_cons_succ, Qp0, Qe0, e1]
    exact ⟨_, PH.Le.refl _, by first | rfl | trivial, hle⟩
  | inl l =>
    rw [hp] at hv
    obtain ⟨v, rfl, how⟩ := hv
    obtain ⟨A, c, rfl, hc⟩ := how.own.len
    have hll := parse_len hp
    simp -dsimp -implicitDefEqProofs (disch := first | omega | assumption | (simp only [Option.isSome_some, Qt0]; done) | (simp only [UInt64.reduceToNat, UInt32.reduceToNat, UInt8.reduceToNat, List.length_cons, List.length_nil, List.length_append, Int.toNat_natCast] <;> omega)) only [Nat.reduceLT, Nat.reduceLeDiff, Nat.reduceEqDiff, ↓reduceIte, beq_self_eq_true, List.getD_cons_zero, List.getD_cons_succ, Int.reduceLT, Int.reduceLE, Int.reduceToNat, Int.reduceEq, Int.reduceNe, Option.bind_some, List.map_cons, List.map_nil, List.zip_cons_cons, List.zip_nil_left, List.append_nil, List.nil_append, List.cons_append, List.length_cons, List.length_nil, Nat.reduceAdd, UInt8.reduceOfNat, UInt16.reduceOfNat, UInt32.reduceOfNat, UInt64.reduceOfNat, UInt64.reduceToNat, UInt32.reduceToNat, UInt16.reduceToNat, UInt8.reduceToNat, Int.reduceAdd, Int.reduceSub, Int.reduceMul, Nat.reduceMul, ne_eq, eq_self, Option.isNone_some, Option.isNone_none, List.length_set, List.length_replicate, List.getElem?_cons_zero, List.getElem?_cons_succ, Qp0, Qe0]
    refine PW_loop (fun n f h' => ∃ (i : Nat) (at_ : Int), n + i = l.length ∧ f 1 = some (str name) ∧ f 6 = some (.slice A l.length c) ∧ f 8 = some (.int .i64 at_) ∧ f 9 = some (.int .i64 i) ∧ h' = h1 ∧ ((at_ = -1 ∧ (l.take i).filter (fun p => decide (p.1 = name)) = []) ∨ ∃ (j : Nat) (p : Pr), at_ = j ∧ j < i ∧ l[j]? = some p ∧ (l.take i).filter (fun p => decide (p.1 = name)) = [p])) (by kernel_rfl) l.length ⟨0, -1, by omega, ?_, ?_, ?_, ?_, rfl, .inl ⟨rfl, by simp⟩⟩ ?_
    · simp -dsimp -implicitDefEqProofs (disch := first | omega | assumption | (simp only [Option.isSome_some, Qt0]; done) | (simp only [UInt64.reduceToNat, UInt32.reduceToNat, UInt8.reduceToNat, List.length_cons, List.length_nil, List.length_append, Int.toNat_natCast] <;> omega)) only [Nat.reduceLT, Nat.reduceLeDiff, Nat.reduceEqDiff, ↓reduceIte, beq_self_eq_true, List.getD_cons_zero, List.getD_cons_succ, Int.reduceLT, Int.reduceLE, Int.reduceToNat, Int.reduceEq, Int.reduceNe, Option.bind_some, List.map_cons, List.map_nil, List.zip_cons_cons, List.zip_nil_left, List.append_nil, List.nil_append, List.cons_append, List.length_cons, List.length_nil, Nat.reduceAdd, UInt8.reduceOfNat, UInt16.reduceOfNat, UInt32.reduceOfNat, UInt64.reduceOfNat, UInt64.reduceToNat, UInt32.reduceToNat, UInt16.reduceToNat, UInt8.reduceToNat, Int.reduceAdd, Int.reduceSub, Int.reduceMul, Nat.reduceMul, ne_eq, eq_self, Option.isNone_some, Option.isNone_none, List.length_set, List.length_replicate, List.getElem?_cons_zero, List.getElem?_cons_succ, Qp0, Qe0]
    · simp -dsimp -implicitDefEqProofs (disch := first | omega | assumption | (simp only [Option.isSome_some, Qt0]; done) | (simp only [UInt64.reduceToNat, UInt32.reduceToNat, UInt8.reduceToNat, List.length_cons, List.length_nil, List.length_append, Int.toNat_natCast] <;> omega)) only [Nat.reduceLT, Nat.reduceLeDiff, Nat.reduceEqDiff, ↓reduceIte, beq_self_eq_true, List.getD_cons_zero, List.getD_cons_succ, Int.reduceLT, Int.reduceLE, Int.reduceToNat, Int.reduceEq, Int.reduceNe, Option.bind_some, List.map_cons, List.map_nil, List.zip_cons_cons, List.zip_nil_left, List.append_nil, List.nil_append, List.cons_append, List.length_cons, List.length_nil, Nat.reduceAdd, UInt8.reduceOfNat, UInt16.reduceOfNat, UInt32.reduceOfNat, UInt64.reduceOfNat, UInt64.reduceToNat, UInt32.reduceToNat, UInt16.reduceToNat, UInt8.reduceToNat, Int.reduceAdd, Int.reduceSub, Int.reduceMul, Nat.reduceMul, ne_eq, eq_self, Option.isNone_some, Option.isNone_none, List.length_set, List.length_replicate, List.getElem?_cons_zero, List.getElem?_cons_succ, Qp0, Qe0]
    · simp -dsimp -implicitDefEqProofs (disch := first | omega | assumption | (simp only [Option.isSome_some, Qt0]; done) | (simp only [UInt64.reduceToNat, UInt32.reduceToNat, UInt8.reduceToNat, List.length_cons, List.length_nil, List.length_append, Int.toNat_natCast] <;> omega)) only [Nat.reduceLT, Nat.reduceLeDiff, Nat.reduceEqDiff, ↓reduceIte, beq_self_eq_true, List.getD_cons_zero, List.getD_cons_succ, Int.reduceLT, Int.reduceLE, Int.reduceToNat, Int.reduceEq, Int.reduceNe, Option.bind_some, List.map_cons, List.map_nil, List.zip_cons_cons, List.zip_nil_left, List.append_nil, List.nil_append, List.cons_append, List.length_cons, List.length_nil, Nat.reduceAdd, UInt8.reduceOfNat, UInt16.reduceOfNat, UInt32.reduceOfNat, UInt64.reduceOfNat, UInt64.reduceToNat, UInt32.reduceToNat, UInt16.reduceToNat, UInt8.reduceToNat, Int.reduceAdd, Int.reduceSub, Int.reduceMul, Nat.reduceMul, ne_eq, eq_self, Option.isNone_some, Option.isNone_none, List.length_set, List.length_replicate, List.getElem?_cons_zero, List.getElem?_cons_succ, Qp0, Qe0]
    · simp -dsimp -implicitDefEqProofs (disch := first | omega | assumption | (simp only [Option.isSome_some, Qt0]; done) | (simp only [UInt64.reduceToNat, UInt32.reduceToNat, UInt8.reduceToNat, List.length_cons, List.length_nil, List.length_append, Int.toNat_natCast] <;> omega)) only [Nat.reduceLT, Nat.reduceLeDiff, Nat.reduceEqDiff, ↓reduceIte, beq_self_eq_true, List.getD_cons_zero, List.getD_cons_succ, Int.reduceLT, Int.reduceLE, Int.reduceToNat, Int.reduceEq, Int.reduceNe, Option.bind_some, List.map_cons, List.map_nil, List.zip_cons_cons, List.zip_nil_left, List.append_nil, List.nil_append, List.cons_append, List.length_cons, List.length_nil, Nat.reduceAdd, UInt8.reduceOfNat, UInt16.reduceOfNat, UInt32.reduceOfNat, UInt64.reduceOfNat, UInt64.reduceToNat, UInt32.reduceToNat, UInt16.reduceToNat, UInt8.reduceToNat, Int.reduceAdd, Int.reduceSub, Int.reduceMul, Nat.reduceMul, ne_eq, eq_self, Option.isNone_some, Option.isNone_none, List.length_set, List.length_replicate, List.getElem?_cons_zero, List.getElem?_cons_succ, Qp0, Qe0]
      try rfl
    rintro n f h' ⟨i, at_, hni, f1, f6, f8, f9, rfl, hat⟩
    by_cases hi : i < l.length
    · have e1 : decide ((i : Int) < (l.length : Int)) = true := decide_eq_true (by omega)
      obtain ⟨b, rfl⟩ := own_some how.own (by omega)
      have hmb := own_blk how.own
      obtain ⟨p, hpi⟩ : ∃ p, l[i]? = some p := ⟨_, List.getElem?_eq_getElem hi⟩
      have q0 : (prs l)[i * 2]? = some (str p.1) := prs_get l i p hpi 0 (by omega)
      have hfn := filter_next name hpi
      by_cases hnm : p.1 = name
      · have e2 : decide (p.1 = name) = true := decide_eq_true hnm
        rw [e2, if_pos rfl] at hfn
        rcases hat with ⟨rfl, hf⟩ | ⟨j, p0, rfl, hji, hj, hf⟩
        · rw [hf, List.nil_append] at hfn
          simp -dsimp -implicitDefEqProofs (disch := first | omega | assumption | (simp only [Option.isSome_some, Qt0]; done) | (simp only [UInt64.reduceToNat, UInt32.reduceToNat, UInt8.reduceToNat, List.length_cons, List.length_nil, List.length_append, Int.toNat_natCast] <;> omega)) only [Nat.reduceLT, Nat.reduceLeDiff, Nat.reduceEqDiff, ↓reduceIte, beq_self_eq_true, List.getD_cons_zero, List.getD_cons_succ, Int.reduceLT, Int.reduceLE, Int.reduceToNat, Int.reduceEq, Int.reduceNe, Option.bind_some, List.map_cons, List.map_nil, List.zip_cons_cons, List.zip_nil_left, List.append_nil, List.nil_append, List.cons_append, List.length_cons, List.length_nil, Nat.reduceAdd, UInt8.reduceOfNat, UInt16.reduceOfNat, UInt32.reduceOfNat, UInt64.reduceOfNat, UInt64.reduceToNat, UInt32.reduceToNat, UInt16.reduceToNat, UInt8.reduceToNat, Int.reduceAdd, Int.reduceSub, Int.reduceMul, Nat.reduceMul, ne_eq, eq_self, Option.isNone_some, Option.isNone_none, List.length_set, List.length_replicate, List.getElem?_cons_zero, List.getElem?_cons_succ, Qp0, Qe0, f1, f6, f8, f9, e1, rd_M, rdM_some, hmb, q0, e2]
          exact ⟨n - 1, _, by omega, PH.Le.refl _, i + 1, (i : Int), by omega, by trivial, by trivial, by trivial, by simp, rfl, .inr ⟨i, p, rfl, by omega, hpi, hfn⟩⟩
        · have e3 : decide ((j : Int) ≥ 0) = true := decide_eq_true (by omega)
          rw [hf] at hfn
          have hall := filter_split l (i + 1) (fun p => decide (p.1 = name))
          rw [hfn] at hall
          rw [findM_more hlong hp hall]
          simp -dsimp -implicitDefEqProofs (disch := first | omega | assumption | (simp only [Option.isSome_some, Qt0]; done) | (simp only [UInt64.reduceToNat, UInt32.reduceToNat, UInt8.reduceToNat, List.length_cons, List.length_nil, List.length_append, Int.toNat_natCast] <;> omega)) only [Nat.reduceLT, Nat.reduceLeDiff, Nat.reduceEqDiff, ↓reduceIte, beq_self_eq_true, List.getD_cons_zero, List.getD_cons_succ, Int.reduceLT, Int.reduceLE, Int.reduceToNat, Int.reduceEq, Int.reduceNe, Option.bind_some, List.map_cons, List.map_nil, List.zip_cons_cons, List.zip_nil_left, List.append_nil, List.nil_append, List.cons_append, List.length_cons, List.length_nil, Nat.reduceAdd, UInt8.reduceOfNat, UInt16.reduceOfNat, UInt32.reduceOfNat, UInt64.reduceOfNat, UInt64.reduceToNat, UInt32.reduceToNat, UInt16.reduceToNat, UInt8.reduceToNat, Int.reduceAdd, Int.reduceSub, Int.reduceMul, Nat.reduceMul, ne_eq, eq_self, Option.isNone_some, Option.isNone_none, List.length_set, List.length_replicate, List.getElem?_cons_zero, List.getElem?_cons_succ, Qp0, Qe0, f1, f6, f8, f9, e1, rd_M, rdM_some, hmb, q0, e2, e3]
          exact ⟨_, PH.Le.refl _, by first | rfl | trivial, how.le⟩
      · have e2 : decide (p.1 = name) = false := decide_eq_false hnm
        rw [e2, if_neg (by simp), List.append_nil] at hfn
        simp -dsimp -implicitDefEqProofs (disch := first | omega | assumption | (simp only [Option.isSome_some, Qt0]; done) | (simp only [UInt64.reduceToNat, UInt32.reduceToNat, UInt8.reduceToNat, List.length_cons, List.length_nil, List.length_append, Int.toNat_natCast] <;> omega)) only [Nat.reduceLT, Nat.reduceLeDiff, Nat.reduceEqDiff, ↓reduceIte, beq_self_eq_true, List.getD_cons_zero, List.getD_cons_succ, Int.reduceLT, Int.reduceLE, Int.reduceToNat, Int.reduceEq, Int.reduceNe, Option.bind_some, List.map_cons, List.map_nil, List.zip_cons_cons, List.zip_nil_left, List.append_nil, List.nil_append, List.cons_append, List.length_cons, List.length_nil, Nat.reduceAdd, UInt8.reduceOfNat, UInt16.reduceOfNat, UInt32.reduceOfNat, UInt64.reduceOfNat, UInt64.reduceToNat, UInt32.reduceToNat, UInt16.reduceToNat, UInt8.reduceToNat, Int.reduceAdd, Int.reduceSub, Int.reduceMul, Nat.reduceMul, ne_eq, eq_self, Option.isNone_some, Option.isNone_none, List.length_set, List.length_replicate, List.getElem?_cons_zero, List.getElem?_cons_succ, Qp0, Qe0, f1, f6, f8, f9, e1, rd_M, rdM_some, hmb, q0, e2]
        refine ⟨n - 1, _, by omega, PH.Le.refl _, i + 1, at_, by omega, by trivial, by trivial, by trivial, by simp, rfl, ?_⟩
        rw [hfn]
        rcases hat with hat | ⟨j, p0, h1, h2, h3, h4⟩
        · exact .inl hat
        · exact .inr ⟨j, p0, h1, by omega, h3, h4⟩
    · have e1 : decide ((i : Int) < (l.length : Int)) = false := decide_eq_false (by omega)
      rw [List.take_of_length_le (by omega)] at hat
      rcases hat with ⟨rfl, hf⟩ | ⟨j, p0, rfl, hji, hj, hf⟩
      · rw [findM_none hlong hp hf]
        simp -dsimp -implicitDefEqProofs (disch := first | omega | assumption | (simp only [Option.isSome_some, Qt0]; done) | (simp only [UInt64.reduceToNat, UInt32.reduceToNat, UInt8.reduceToNat, List.length_cons, List.length_nil, List.length_append, Int.toNat_natCast] <;> omega)) only [Nat.reduceLT, Nat.reduceLeDiff, Nat.reduceEqDiff, ↓reduceIte, beq_self_eq_true, List.getD_cons_zero, List.getD_cons_succ, Int.reduceLT, Int.reduceLE, Int.reduceToNat, Int.reduceEq, Int.reduceNe, Option.bind_some, List.map_cons, List.map_nil, List.zip_cons_cons, List.zip_nil_left, List.append_nil, List.nil_append, List.cons_append, List.length_cons, List.length_nil, Nat.reduceAdd, UInt8.reduceOfNat, UInt16.reduceOfNat, UInt32.reduceOfNat, UInt64.reduceOfNat, UInt64.reduceToNat, UInt32.reduceToNat, UInt16.reduceToNat, UInt8.reduceToNat, Int.reduceAdd, Int.reduceSub, Int.reduceMul, Nat.reduceMul, ne_eq, eq_self, Option.isNone_some, Option.isNone_none, List.length_set, List.length_replicate, List.getElem?_cons_zero, List.getElem?_cons_succ, Qp0, Qe0, f1, f6, f8, f9, e1]
        exact ⟨_, PH.Le.refl _, by first | rfl | trivial, how.le⟩
      · rw [findM_one hlong hp hf]
        have hjl := (List.getElem?_eq_some_iff.1 hj).1
        have e3 : decide ((j : Int) < 0) = false := decide_eq_false (by omega)
        obtain ⟨b, rfl⟩ := own_some how.own (by omega)
        have hmb := own_blk how.own
        have q1 : (prs l)[j * 2 + 1]? = some (str p0.2) := prs_get l j p0 hj 1 (by omega)
        simp -dsimp -implicitDefEqProofs (disch := first | omega | assumption | (simp only [Option.isSome_some, Qt0]; done) | (simp only [UInt64.reduceToNat, UInt32.reduceToNat, UInt8.reduceToNat, List.length_cons, List.length_nil, List.length_append, Int.toNat_natCast] <;> omega)) only [Nat.reduceLT, Nat.reduceLeDiff, Nat.reduceEqDiff, ↓reduceIte, beq_self_eq_true, List.getD_cons_zero, List.getD_cons_succ, Int.reduceLT, Int.reduceLE, Int.reduceToNat, Int.reduceEq, Int.reduceNe, Option.bind_some, List.map_cons, List.map_nil, List.zip_cons_cons, List.zip_nil_left, List.append_nil, List.nil_append, List.cons_append, List.length_cons, List.length_nil, Nat.reduceAdd, UInt8.reduceOfNat, UInt16.reduceOfNat, UInt32.reduceOfNat, UInt64.reduceOfNat, UInt64.reduceToNat, UInt32.reduceToNat, UInt16.reduceToNat, UInt8.reduceToNat, Int.reduceAdd, Int.reduceSub, Int.reduceMul, Nat.reduceMul, ne_eq, eq_self, Option.isNone_some, Option.isNone_none, List.length_set, List.length_replicate, List.getElem?_cons_zero, List.getElem?_cons_succ, Qp0, Qe0, f1, f6, f8, f9, e1, e3, rd_M, rdM_some, hmb, q1]
        exact ⟨_, PH.Le.refl _, by first | rfl | trivial, how.le⟩
end Go.Proofs.YtefkgpcdabmkkaaDoor
