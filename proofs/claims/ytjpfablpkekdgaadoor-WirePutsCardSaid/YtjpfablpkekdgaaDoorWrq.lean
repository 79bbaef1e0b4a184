/- The laws' first items: few. No condition. -/
import Derived.Test.YtjpfablpkekdgaaDoorWdi
namespace Go.Proofs.YtjpfablpkekdgaaDoor
set_option linter.unusedVariables false
set_option linter.unusedSimpArgs false
open Go.RowKit Px Wr
/-- An item that came in, with where its vector lies. -/
abbrev Ip := It × Option Addr × Nat
def ipL (p : Ip) : List Value := itL p.1 p.2.1 p.2.2
def Good (w0 : World) (h : PH) (p : Ip) : Prop := p.1.N ≤ 9223372036854775807 ∧ p.1.V.length ≤ p.2.2 ∧ Rv w0 h p.2.1 (ints p.1.V)
def Fine (x : It) : Prop := 0 ≤ x.K ∧ x.K ≤ 3 ∧ x.S.length ≤ 70000 ∧ x.V.length ≤ 100
theorem Good.more {w0 : World} {h h' : PH} {p : Ip} (g : Good w0 h p) (l : PH.Le h h') : Good w0 h' p := ⟨g.1, g.2.1, g.2.2.more l⟩
theorem ipL_allOne (L : List Ip) : allOne (L.flatMap ipL) := by
  induction L with
  | nil => exact allOne_of [] rfl
  | cons p L ih =>
    intro u hu
    rw [List.flatMap_cons, List.mem_append] at hu
    rcases hu with hu | hu
    · exact allOne_of (ipL p) rfl u hu
    · exact ih u hu
theorem flat_len (L : List Ip) : (L.flatMap ipL).length = L.length * 5 := by
  induction L with
  | nil => rfl
  | cons p L ih => rw [List.flatMap_cons, List.length_append, ih, List.length_cons, Nat.add_mul]; show 5 + _ = _; omega
theorem flat_take (L : List Ip) (m : Nat) : (L.take m).flatMap ipL = (L.flatMap ipL).take (m * 5) := by
  induction L generalizing m with
  | nil => simp
  | cons p L ih =>
    cases m with
    | zero => simp
    | succ m =>
      rw [List.take_succ_cons, List.flatMap_cons, List.flatMap_cons, ih, Nat.add_mul, Nat.one_mul, List.take_append]
      show ipL p ++ _ = _
      rw [List.take_of_length_le (show (ipL p).length ≤ m * 5 + 5 by show 5 ≤ _; omega)]
      show ipL p ++ _ = ipL p ++ List.take (m * 5 + 5 - 5) _
      rw [Nat.add_sub_cancel]
theorem flat_get (L : List Ip) (i : Nat) (p : Ip) (hp : L[i]? = some p) (j : Nat) (hj : j < 5) : (L.flatMap ipL)[i * 5 + j]? = (ipL p)[j]? := by
  have h := (flat_chunk ipL 5 (fun _ => rfl) L i p hp).1
  rw [← h, List.getElem?_take_of_lt hj, List.getElem?_drop]
def zeroK (p : Ip) : Ip := ({ p.1 with K := 0 }, p.2)
theorem flat_set (L : List Ip) (i : Nat) (p : Ip) (hp : L[i]? = some p) : (L.flatMap ipL).set (i * 5) (.int .i64 0) = (L.set i (zeroK p)).flatMap ipL := by
  induction L generalizing i with
  | nil => simp at hp
  | cons q L ih =>
    cases i with
    | zero =>
      simp at hp; subst hp
      rfl
    | succ i =>
      rw [List.set_cons_succ, List.flatMap_cons, List.flatMap_cons, ← ih i (by simpa using hp), Nat.add_mul, Nat.one_mul]
      rw [List.set_append_right _ _ (by show 5 ≤ _; omega)]
      show ipL q ++ List.set _ (i * 5 + 5 - 5) _ = _
      rw [Nat.add_sub_cancel]
theorem sz_it : szOf Tryd.prog 65 = some 5 := by kernel_rfl
theorem y_toIt (A : Option Addr) (n c : Nat) (k' : IntKind) (j : Nat) (h2 : j ≤ c) {K : Value → Prop} : Yld Tryd.prog (Instr.sliceAt 22 (.slice A n c) none (some (.int k' (j : Int))) none) K = K (.slice A j c) := Yld_eq fun w => by
  cases A <;> simp [Instr.sliceAt, run_underlying Tryd.underlying22, Instr.slice, Instr.sliceBounds, Instr.sliceBound, asIntOf, h2, Px.run_sizeOf sz_it, Addr.add]
theorem OwnS_set {h0 h : PH} {sz n c b : Nat} {xs ys : List Value} (o : OwnS h0 h sz (.slice (some ⟨b, 0, none⟩) n c) n xs) (hl : ys.length = xs.length) : OwnS h0 (h.new b ⟨ys, c * sz⟩) sz (.slice (some ⟨b, 0, none⟩) n c) n ys := by
  have hb := o.new b rfl
  refine ⟨((Chg.le o.le : Chg (· = b) h0 h).one ⟨ys, c * sz⟩).toLe (fun x e => by rw [e]; exact hb), ⟨by rw [hl]; exact o.own.1, ?_⟩, o.new⟩
  rcases o.own.2 with ⟨h1, _⟩ | ⟨b', c', h1, h2, h3, _⟩
  · cases h1
  · injection h1 with h4 h5 h6
    injection h4 with h4
    injection h4 with h4
    subst h4; subst h6
    exact .inr ⟨b, c, rfl, h2, h3, by rw [PH.new_m, if_pos rfl]⟩
theorem Rv_take {w0 : World} {h : PH} {A : Option Addr} {xs : List Value} (r : Rv w0 h A xs) (m : Nat) : Rv w0 h A (xs.take m) := fun j u e => by
  have hj : j < m := by have := (List.getElem?_eq_some_iff.1 e).1; simp only [List.length_take] at this; omega
  rw [List.getElem?_take_of_lt hj] at e
  exact r j u e
/-- What few tells. -/
def FEW (w0 : World) (h' : PH) (r : Value) : Prop := r = .tuple #[.slice none 0 0, .bool false] ∨ ∃ (v : Value) (L' : List Ip), r = .tuple #[v, .bool true] ∧ Own h' 5 v L'.length (L'.flatMap ipL) ∧ (∀ p ∈ L', Good w0 h' p ∧ Fine p.1) ∧ L'.length ≤ 300
set_option maxRecDepth 20000 in
set_option maxHeartbeats 4000000 in
theorem few_any (w0 : World) (h : PH) (A : Option Addr) (c : Nat) (Ls : List Ip) (hc : Ls.length ≤ c) (hr : Rv w0 h A (Ls.flatMap ipL)) (hg : ∀ p ∈ Ls, Good w0 h p) : PCalls Tryd.prog w0 6 [.slice A Ls.length c] h fun r h' => FEW w0 h' r ∧ PH.Le h h' := by
  refine PCalls_body Tryd.func6 (by kernel_rfl) rfl _ Tryd.ntmps6 (by kernel_rfl) (by kernel_rfl) _ Tryd.results6 ?_
  obtain ⟨m, hm⟩ : ∃ m, m = min Ls.length 300 := ⟨_, rfl⟩
  have hmn : m ≤ Ls.length := by omega
  have hm3 : m ≤ 300 := by omega
  have hmin : (if (300 : Int) < (Ls.length : Int) then (300 : Int) else (Ls.length : Int)) = (m : Int) := by split <;> omega
  have hto : ∀ K : Value → Prop, Yld Tryd.prog (Instr.sliceAt 22 (.slice A Ls.length c) none (some (.int .i64 (m : Int))) none) K = K (.slice A m c) := by
    intro K
    exact y_toIt A _ c .i64 m (by omega)
  simp -dsimp -implicitDefEqProofs (disch := first | omega | assumption | (simp only [Option.isSome_some, Qt0]; done) | (simp only [UInt64.reduceToNat, UInt32.reduceToNat, UInt8.reduceToNat, List.length_cons, List.length_nil, List.length_append, Int.toNat_natCast] <;> omega)) only [Nat.reduceLT, Nat.reduceLeDiff, Nat.reduceEqDiff, ↓reduceIte, beq_self_eq_true, List.getD_cons_zero, List.getD_cons_succ, Int.reduceLT, Int.reduceLE, Int.reduceToNat, Int.reduceEq, Int.reduceNe, Option.bind_some, List.map_cons, List.map_nil, List.zip_cons_cons, List.zip_nil_left, List.append_nil, List.nil_append, List.cons_append, List.length_cons, List.length_nil, Nat.reduceAdd, UInt8.reduceOfNat, UInt16.reduceOfNat, UInt32.reduceOfNat, UInt64.reduceOfNat, UInt64.reduceToNat, UInt32.reduceToNat, UInt16.reduceToNat, UInt8.reduceToNat, Int.reduceAdd, Int.reduceSub, Int.reduceMul, Nat.reduceMul, ne_eq, eq_self, Option.isNone_some, Option.isNone_none, List.length_set, List.length_replicate, List.getElem?_cons_zero, List.getElem?_cons_succ, Qp0, Qe0]
  refine Does_low (Does_zero el_it fun b0 hb0 hl0 => ?_)
  have how : OwnS h (h.new b0 ⟨[], 0⟩) 5 (.slice (some ⟨b0, 0, none⟩) 0 0) 0 [] := OwnS.zero 5 hb0
  simp -dsimp -implicitDefEqProofs (disch := first | omega | assumption | (simp only [Option.isSome_some, Qt0]; done) | (simp only [UInt64.reduceToNat, UInt32.reduceToNat, UInt8.reduceToNat, List.length_cons, List.length_nil, List.length_append, Int.toNat_natCast] <;> omega)) only [Nat.reduceLT, Nat.reduceLeDiff, Nat.reduceEqDiff, ↓reduceIte, beq_self_eq_true, List.getD_cons_zero, List.getD_cons_succ, Int.reduceLT, Int.reduceLE, Int.reduceToNat, Int.reduceEq, Int.reduceNe, Option.bind_some, List.map_cons, List.map_nil, List.zip_cons_cons, List.zip_nil_left, List.append_nil, List.nil_append, List.cons_append, List.length_cons, List.length_nil, Nat.reduceAdd, UInt8.reduceOfNat, UInt16.reduceOfNat, UInt32.reduceOfNat, UInt64.reduceOfNat, UInt64.reduceToNat, UInt32.reduceToNat, UInt16.reduceToNat, UInt8.reduceToNat, Int.reduceAdd, Int.reduceSub, Int.reduceMul, Nat.reduceMul, ne_eq, eq_self, Option.isNone_some, Option.isNone_none, List.length_set, List.length_replicate, List.getElem?_cons_zero, List.getElem?_cons_succ, Qp0, Qe0, hmin, hto]
  refine Does_app el_it how.own ((Rv_take (hr.more how.le) (m * 5)).rs hl0 (by rw [List.length_take, flat_len]; omega) (by omega)) (by rw [← flat_take]; exact ipL_allOne _) (by unfold maxLen; omega) (by omega) (fun v1 h1 ho1 hst1 => ?_)
  have how1 := how.stays hst1 ho1
  rw [Nat.zero_add, List.nil_append, ← flat_take] at how1
  obtain ⟨A1, c1, rfl, hc1⟩ := how1.own.len
  simp -dsimp -implicitDefEqProofs (disch := first | omega | assumption | (simp only [Option.isSome_some, Qt0]; done) | (simp only [UInt64.reduceToNat, UInt32.reduceToNat, UInt8.reduceToNat, List.length_cons, List.length_nil, List.length_append, Int.toNat_natCast] <;> omega)) only [Nat.reduceLT, Nat.reduceLeDiff, Nat.reduceEqDiff, ↓reduceIte, beq_self_eq_true, List.getD_cons_zero, List.getD_cons_succ, Int.reduceLT, Int.reduceLE, Int.reduceToNat, Int.reduceEq, Int.reduceNe, Option.bind_some, List.map_cons, List.map_nil, List.zip_cons_cons, List.zip_nil_left, List.append_nil, List.nil_append, List.cons_append, List.length_cons, List.length_nil, Nat.reduceAdd, UInt8.reduceOfNat, UInt16.reduceOfNat, UInt32.reduceOfNat, UInt64.reduceOfNat, UInt64.reduceToNat, UInt32.reduceToNat, UInt16.reduceToNat, UInt8.reduceToNat, Int.reduceAdd, Int.reduceSub, Int.reduceMul, Nat.reduceMul, ne_eq, eq_self, Option.isNone_some, Option.isNone_none, List.length_set, List.length_replicate, List.getElem?_cons_zero, List.getElem?_cons_succ, Qp0, Qe0]
  refine PW_loop (fun n f h' => ∃ (i : Nat) (L2 : List Ip), n + i = m ∧ L2.length = m ∧ f 4 = some (.slice A1 m c1) ∧ f 14 = some (.int .i64 m) ∧ f 15 = some (.int .i64 i) ∧ OwnS h h' 5 (.slice A1 m c1) m (L2.flatMap ipL) ∧ (∀ p ∈ L2, Good w0 h p) ∧ (∀ j p, j < i → L2[j]? = some p → Fine p.1)) (by kernel_rfl) m ⟨0, Ls.take m, by omega, by rw [List.length_take]; omega, ?_, ?_, ?_, how1, fun p hp => hg p (List.mem_of_mem_take hp), fun j p h => by omega⟩ ?_
  · simp -dsimp -implicitDefEqProofs (disch := first | omega | assumption | (simp only [Option.isSome_some, Qt0]; done) | (simp only [UInt64.reduceToNat, UInt32.reduceToNat, UInt8.reduceToNat, List.length_cons, List.length_nil, List.length_append, Int.toNat_natCast] <;> omega)) only [Nat.reduceLT, Nat.reduceLeDiff, Nat.reduceEqDiff, ↓reduceIte, beq_self_eq_true, List.getD_cons_zero, List.getD_cons_succ, Int.reduceLT, Int.reduceLE, Int.reduceToNat, Int.reduceEq, Int.reduceNe, Option.bind_some, List.map_cons, List.map_nil, List.zip_cons_cons, List.zip_nil_left, List.append_nil, List.nil_append, List.cons_append, List.length_cons, List.length_nil, Nat.reduceAdd, UInt8.reduceOfNat, UInt16.reduceOfNat, UInt32.reduceOfNat, UInt64.reduceOfNat, UInt64.reduceToNat, UInt32.reduceToNat, UInt16.reduceToNat, UInt8.reduceToNat, Int.reduceAdd, Int.reduceSub, Int.reduceMul, Nat.reduceMul, ne_eq, eq_self, Option.isNone_some, Option.isNone_none, List.length_set, List.length_replicate, List.getElem?_cons_zero, List.getElem?_cons_succ, Qp0, Qe0]
  · simp -dsimp -implicitDefEqProofs (disch := first | omega | assumption | (simp only [Option.isSome_some, Qt0]; done) | (simp only [UInt64.reduceToNat, UInt32.reduceToNat, UInt8.reduceToNat, List.length_cons, List.length_nil, List.length_append, Int.toNat_natCast] <;> omega)) only [Nat.reduceLT, Nat.reduceLeDiff, Nat.reduceEqDiff, ↓reduceIte, beq_self_eq_true, List.getD_cons_zero, List.getD_cons_succ, Int.reduceLT, Int.reduceLE, Int.reduceToNat, Int.reduceEq, Int.reduceNe, Option.bind_some, List.map_cons, List.map_nil, List.zip_cons_cons, List.zip_nil_left, List.append_nil, List.nil_append, List.cons_append, List.length_cons, List.length_nil, Nat.reduceAdd, UInt8.reduceOfNat, UInt16.reduceOfNat, UInt32.reduceOfNat, UInt64.reduceOfNat, UInt64.reduceToNat, UInt32.reduceToNat, UInt16.reduceToNat, UInt8.reduceToNat, Int.reduceAdd, Int.reduceSub, Int.reduceMul, Nat.reduceMul, ne_eq, eq_self, Option.isNone_some, Option.isNone_none, List.length_set, List.length_replicate, List.getElem?_cons_zero, List.getElem?_cons_succ, Qp0, Qe0]
  · simp -dsimp -implicitDefEqProofs (disch := first | omega | assumption | (simp only [Option.isSome_some, Qt0]; done) | (simp only [UInt64.reduceToNat, UInt32.reduceToNat, UInt8.reduceToNat, List.length_cons, List.length_nil, List.length_append, Int.toNat_natCast] <;> omega)) only [Nat.reduceLT, Nat.reduceLeDiff, Nat.reduceEqDiff, ↓reduceIte, beq_self_eq_true, List.getD_cons_zero, List.getD_cons_succ, Int.reduceLT, Int.reduceLE, Int.reduceToNat, Int.reduceEq, Int.reduceNe, Option.bind_some, List.map_cons, List.map_nil, List.zip_cons_cons, List.zip_nil_left, List.append_nil, List.nil_append, List.cons_append, List.length_cons, List.length_nil, Nat.reduceAdd, UInt8.reduceOfNat, UInt16.reduceOfNat, UInt32.reduceOfNat, UInt64.reduceOfNat, UInt64.reduceToNat, UInt32.reduceToNat, UInt16.reduceToNat, UInt8.reduceToNat, Int.reduceAdd, Int.reduceSub, Int.reduceMul, Nat.reduceMul, ne_eq, eq_self, Option.isNone_some, Option.isNone_none, List.length_set, List.length_replicate, List.getElem?_cons_zero, List.getElem?_cons_succ, Qp0, Qe0]
    try rfl
  rintro n f h' ⟨i, L2, hni, hL2, f4, f14, f15, how2, hgood, hfine⟩
  by_cases hi : i < m
  · have e1 : decide ((i : Int) < (m : Int)) = true := decide_eq_true (by omega)
    obtain ⟨p, hp⟩ : ∃ p, L2[i]? = some p := ⟨_, List.getElem?_eq_getElem (by omega)⟩
    obtain ⟨b, rfl⟩ : ∃ b, A1 = some ⟨b, 0, none⟩ := by
      rcases how2.own.2 with ⟨_, h2⟩ | ⟨b', c', h2, _⟩
      · omega
      · injection h2 with h3; exact ⟨b', h3⟩
    have hmb : h'.m b = some ⟨L2.flatMap ipL, c1 * 5⟩ := by
      rcases how2.own.2 with ⟨h2, _⟩ | ⟨b', c', h2, _, _, h4⟩
      · cases h2
      · injection h2 with h3 _ h5
        injection h3 with h3
        injection h3 with h3
        subst h3; subst h5
        exact h4
    have q0 : (L2.flatMap ipL)[i * 5]? = some (.int .i64 p.1.K) := flat_get L2 i p hp 0 (by omega)
    have q2 : (L2.flatMap ipL)[i * 5 + 2]? = some (str p.1.S) := flat_get L2 i p hp 2 (by omega)
    have q4 : (L2.flatMap ipL)[i * 5 + 4]? = some (.slice p.2.1 p.1.V.length p.2.2) := flat_get L2 i p hp 4 (by omega)
    have d5 : decide (i * 5 < (L2.flatMap ipL).length) = true := decide_eq_true (by rw [flat_len]; omega)
    obtain ⟨b1, hb1⟩ : ∃ b, decide (70000 < (p.1.S.length : Int)) = b := ⟨_, rfl⟩
    obtain ⟨b2, hb2⟩ : ∃ b, decide (100 < (p.1.V.length : Int)) = b := ⟨_, rfl⟩
    obtain ⟨b3, hb3⟩ : ∃ b, decide (p.1.K < 0) = b := ⟨_, rfl⟩
    obtain ⟨b4, hb4⟩ : ∃ b, decide (3 < p.1.K) = b := ⟨_, rfl⟩
    cases b1
    rotate_left
    · simp -dsimp -implicitDefEqProofs (disch := first | omega | assumption | (simp only [Option.isSome_some, Qt0]; done) | (simp only [UInt64.reduceToNat, UInt32.reduceToNat, UInt8.reduceToNat, List.length_cons, List.length_nil, List.length_append, Int.toNat_natCast] <;> omega)) only [Nat.reduceLT, Nat.reduceLeDiff, Nat.reduceEqDiff, ↓reduceIte, beq_self_eq_true, List.getD_cons_zero, List.getD_cons_succ, Int.reduceLT, Int.reduceLE, Int.reduceToNat, Int.reduceEq, Int.reduceNe, Option.bind_some, List.map_cons, List.map_nil, List.zip_cons_cons, List.zip_nil_left, List.append_nil, List.nil_append, List.cons_append, List.length_cons, List.length_nil, Nat.reduceAdd, UInt8.reduceOfNat, UInt16.reduceOfNat, UInt32.reduceOfNat, UInt64.reduceOfNat, UInt64.reduceToNat, UInt32.reduceToNat, UInt16.reduceToNat, UInt8.reduceToNat, Int.reduceAdd, Int.reduceSub, Int.reduceMul, Nat.reduceMul, ne_eq, eq_self, Option.isNone_some, Option.isNone_none, List.length_set, List.length_replicate, List.getElem?_cons_zero, List.getElem?_cons_succ, Qp0, Qe0, gt_iff_lt, f4, f14, f15, e1, rd_M, rdM_some, hmb, q0, q2, q4, hb1]
      exact ⟨_, PH.Le.refl _, .inl rfl, how2.le⟩
    cases b2
    rotate_left
    · simp -dsimp -implicitDefEqProofs (disch := first | omega | assumption | (simp only [Option.isSome_some, Qt0]; done) | (simp only [UInt64.reduceToNat, UInt32.reduceToNat, UInt8.reduceToNat, List.length_cons, List.length_nil, List.length_append, Int.toNat_natCast] <;> omega)) only [Nat.reduceLT, Nat.reduceLeDiff, Nat.reduceEqDiff, ↓reduceIte, beq_self_eq_true, List.getD_cons_zero, List.getD_cons_succ, Int.reduceLT, Int.reduceLE, Int.reduceToNat, Int.reduceEq, Int.reduceNe, Option.bind_some, List.map_cons, List.map_nil, List.zip_cons_cons, List.zip_nil_left, List.append_nil, List.nil_append, List.cons_append, List.length_cons, List.length_nil, Nat.reduceAdd, UInt8.reduceOfNat, UInt16.reduceOfNat, UInt32.reduceOfNat, UInt64.reduceOfNat, UInt64.reduceToNat, UInt32.reduceToNat, UInt16.reduceToNat, UInt8.reduceToNat, Int.reduceAdd, Int.reduceSub, Int.reduceMul, Nat.reduceMul, ne_eq, eq_self, Option.isNone_some, Option.isNone_none, List.length_set, List.length_replicate, List.getElem?_cons_zero, List.getElem?_cons_succ, Qp0, Qe0, gt_iff_lt, f4, f14, f15, e1, rd_M, rdM_some, hmb, q0, q2, q4, hb1, hb2]
      exact ⟨_, PH.Le.refl _, .inl rfl, how2.le⟩
    have hs1 := of_decide_eq_false hb1
    have hs2 := of_decide_eq_false hb2
    have hset : OwnS h (h'.new b ⟨(L2.flatMap ipL).set (i * 5) (.int .i64 0), c1 * 5⟩) 5 (.slice (some ⟨b, 0, none⟩) m c1) m ((L2.set i (zeroK p)).flatMap ipL) := by
      rw [flat_set L2 i p hp]
      exact OwnS_set how2 (by rw [flat_len, flat_len, List.length_set])
    have hgood2 : ∀ x ∈ L2.set i (zeroK p), Good w0 h x := fun x hx => by
      rcases List.mem_or_eq_of_mem_set hx with hx | rfl
      · exact hgood x hx
      · exact hgood p (List.mem_of_getElem? hp)
    have hfine2 : ∀ j x, j < i + 1 → (L2.set i (zeroK p))[j]? = some x → Fine x.1 := fun j x hj hx => by
      by_cases hji : j = i
      · subst hji
        rw [List.getElem?_set_self (by omega)] at hx
        injection hx with hx
        subst hx
        exact ⟨by simp [zeroK], by simp [zeroK], by simp only [zeroK]; omega, by simp only [zeroK]; omega⟩
      · rw [List.getElem?_set_ne (by omega)] at hx
        exact hfine j x (by omega) hx
    cases b3
    rotate_left
    · simp -dsimp -implicitDefEqProofs (disch := first | omega | assumption | (simp only [Option.isSome_some, Qt0]; done) | (simp only [UInt64.reduceToNat, UInt32.reduceToNat, UInt8.reduceToNat, List.length_cons, List.length_nil, List.length_append, Int.toNat_natCast] <;> omega)) only [Nat.reduceLT, Nat.reduceLeDiff, Nat.reduceEqDiff, ↓reduceIte, beq_self_eq_true, List.getD_cons_zero, List.getD_cons_succ, Int.reduceLT, Int.reduceLE, Int.reduceToNat, Int.reduceEq, Int.reduceNe, Option.bind_some, List.map_cons, List.map_nil, List.zip_cons_cons, List.zip_nil_left, List.append_nil, List.nil_append, List.cons_append, List.length_cons, List.length_nil, Nat.reduceAdd, UInt8.reduceOfNat, UInt16.reduceOfNat, UInt32.reduceOfNat, UInt64.reduceOfNat, UInt64.reduceToNat, UInt32.reduceToNat, UInt16.reduceToNat, UInt8.reduceToNat, Int.reduceAdd, Int.reduceSub, Int.reduceMul, Nat.reduceMul, ne_eq, eq_self, Option.isNone_some, Option.isNone_none, List.length_set, List.length_replicate, List.getElem?_cons_zero, List.getElem?_cons_succ, Qp0, Qe0, gt_iff_lt, f4, f14, f15, e1, rd_M, rdM_some, hmb, q0, q2, q4, hb1, hb2, hb3, d5]
      exact ⟨n - 1, _, by omega, PH.Le.refl _, i + 1, L2.set i (zeroK p), by omega, by rw [List.length_set]; exact hL2, by trivial, by trivial, by simp, hset, hgood2, hfine2⟩
    cases b4
    rotate_left
    · simp -dsimp -implicitDefEqProofs (disch := first | omega | assumption | (simp only [Option.isSome_some, Qt0]; done) | (simp only [UInt64.reduceToNat, UInt32.reduceToNat, UInt8.reduceToNat, List.length_cons, List.length_nil, List.length_append, Int.toNat_natCast] <;> omega)) only [Nat.reduceLT, Nat.reduceLeDiff, Nat.reduceEqDiff, ↓reduceIte, beq_self_eq_true, List.getD_cons_zero, List.getD_cons_succ, Int.reduceLT, Int.reduceLE, Int.reduceToNat, Int.reduceEq, Int.reduceNe, Option.bind_some, List.map_cons, List.map_nil, List.zip_cons_cons, List.zip_nil_left, List.append_nil, List.nil_append, List.cons_append, List.length_cons, List.length_nil, Nat.reduceAdd, UInt8.reduceOfNat, UInt16.reduceOfNat, UInt32.reduceOfNat, UInt64.reduceOfNat, UInt64.reduceToNat, UInt32.reduceToNat, UInt16.reduceToNat, UInt8.reduceToNat, Int.reduceAdd, Int.reduceSub, Int.reduceMul, Nat.reduceMul, ne_eq, eq_self, Option.isNone_some, Option.isNone_none, List.length_set, List.length_replicate, List.getElem?_cons_zero, List.getElem?_cons_succ, Qp0, Qe0, gt_iff_lt, f4, f14, f15, e1, rd_M, rdM_some, hmb, q0, q2, q4, hb1, hb2, hb3, hb4, d5]
      exact ⟨n - 1, _, by omega, PH.Le.refl _, i + 1, L2.set i (zeroK p), by omega, by rw [List.length_set]; exact hL2, by trivial, by trivial, by simp, hset, hgood2, hfine2⟩
    have hs3 := of_decide_eq_false hb3
    have hs4 := of_decide_eq_false hb4
    simp -dsimp -implicitDefEqProofs (disch := first | omega | assumption | (simp only [Option.isSome_some, Qt0]; done) | (simp only [UInt64.reduceToNat, UInt32.reduceToNat, UInt8.reduceToNat, List.length_cons, List.length_nil, List.length_append, Int.toNat_natCast] <;> omega)) only [Nat.reduceLT, Nat.reduceLeDiff, Nat.reduceEqDiff, ↓reduceIte, beq_self_eq_true, List.getD_cons_zero, List.getD_cons_succ, Int.reduceLT, Int.reduceLE, Int.reduceToNat, Int.reduceEq, Int.reduceNe, Option.bind_some, List.map_cons, List.map_nil, List.zip_cons_cons, List.zip_nil_left, List.append_nil, List.nil_append, List.cons_append, List.length_cons, List.length_nil, Nat.reduceAdd, UInt8.reduceOfNat, UInt16.reduceOfNat, UInt32.reduceOfNat, UInt64.reduceOfNat, UInt64.reduceToNat, UInt32.reduceToNat, UInt16.reduceToNat, UInt8.reduceToNat, Int.reduceAdd, Int.reduceSub, Int.reduceMul, Nat.reduceMul, ne_eq, eq_self, Option.isNone_some, Option.isNone_none, List.length_set, List.length_replicate, List.getElem?_cons_zero, List.getElem?_cons_succ, Qp0, Qe0, gt_iff_lt, f4, f14, f15, e1, rd_M, rdM_some, hmb, q0, q2, q4, hb1, hb2, hb3, hb4]
    refine ⟨n - 1, _, by omega, PH.Le.refl _, i + 1, L2, by omega, hL2, by trivial, by trivial, by simp, how2, hgood, fun j x hj hx => ?_⟩
    by_cases hji : j = i
    · subst hji
      rw [hp] at hx
      injection hx with hx
      subst hx
      exact ⟨by omega, by omega, by omega, by omega⟩
    · exact hfine j x (by omega) hx
  · have e1 : decide ((i : Int) < (m : Int)) = false := decide_eq_false (by omega)
    simp -dsimp -implicitDefEqProofs (disch := first | omega | assumption | (simp only [Option.isSome_some, Qt0]; done) | (simp only [UInt64.reduceToNat, UInt32.reduceToNat, UInt8.reduceToNat, List.length_cons, List.length_nil, List.length_append, Int.toNat_natCast] <;> omega)) only [Nat.reduceLT, Nat.reduceLeDiff, Nat.reduceEqDiff, ↓reduceIte, beq_self_eq_true, List.getD_cons_zero, List.getD_cons_succ, Int.reduceLT, Int.reduceLE, Int.reduceToNat, Int.reduceEq, Int.reduceNe, Option.bind_some, List.map_cons, List.map_nil, List.zip_cons_cons, List.zip_nil_left, List.append_nil, List.nil_append, List.cons_append, List.length_cons, List.length_nil, Nat.reduceAdd, UInt8.reduceOfNat, UInt16.reduceOfNat, UInt32.reduceOfNat, UInt64.reduceOfNat, UInt64.reduceToNat, UInt32.reduceToNat, UInt16.reduceToNat, UInt8.reduceToNat, Int.reduceAdd, Int.reduceSub, Int.reduceMul, Nat.reduceMul, ne_eq, eq_self, Option.isNone_some, Option.isNone_none, List.length_set, List.length_replicate, List.getElem?_cons_zero, List.getElem?_cons_succ, Qp0, Qe0, f4, f14, f15, e1]
    refine ⟨_, PH.Le.refl _, .inr ⟨_, L2, rfl, ?_, fun p hp => ?_, by omega⟩, how2.le⟩
    · rw [hL2]; exact how2.own
    · obtain ⟨j, hj, rfl⟩ := List.getElem_of_mem hp
      exact ⟨(hgood _ hp).more how2.le, hfine j _ (by omega) (List.getElem?_eq_getElem hj)⟩
end Go.Proofs.YtjpfablpkekdgaaDoor
