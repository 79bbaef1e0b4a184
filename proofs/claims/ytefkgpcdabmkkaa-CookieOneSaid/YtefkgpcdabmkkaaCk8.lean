/- Cookie headers: the walk of Write. No condition. -/
import Derived.Test.YtefkgpcdabmkkaaCk3
import Derived.Test.YtefkgpcdabmkkaaJoin
namespace Go.Proofs.Ytefkgpcdabmkkaa
set_option linter.unusedVariables false
set_option linter.unusedSimpArgs false
open Go.RowKit Px Tx Ck
/-- What the library's contracts say of a world, in the logic. -/
theorem Sim_kit {w0 w w' : World} {h : PH} (s : Sim w0 h w) (hb : Below w.heap.size w w') : Sim w0 h w' :=
  ⟨s.below.trans (hb.mono s.base), Nat.le_trans s.top hb.size, fun b k e => ⟨(s.sat b k e).1, by
    obtain ⟨cur, t, lo, hi, h1, h2⟩ := (s.sat b k e).2
    exact ⟨cur, t, lo, hi, by rw [hb.block b (Nat.lt_of_lt_of_le (h.lt b k e) s.top)]; exact h1, h2⟩⟩⟩
theorem PCalls_kit {P : Program} {w0 : World} {h : PH} {g : FuncId} {args : List Value} {v : Value} (he : entered P g = true) (hc : ∀ w, Sim w0 h w → Calls P g args.toArray w fun e w' => e = .returned v ∧ Below w.heap.size w w') : PCalls P w0 g args h fun r h' => r = v ∧ h' = h :=
  fun w s => .inl ⟨run_callFunc he _ w, (hc w s).mono fun e w' ⟨h1, h2⟩ => ⟨v, h, h1, ⟨rfl, rfl⟩, Sim_kit s h2⟩⟩
theorem join_any (w0 : World) (h : PH) (A : Option Addr) (c : Nat) (L : List (List UInt8)) (sep : List UInt8) (ho : Own h 1 (.slice A L.length c) L.length (L.map str)) (hN : L.length ≤ 1000000) (hl : (Lib.join L sep).length ≤ 140737488355328) :
    PCalls Try.prog w0 17 [.slice A L.length c, str sep] h fun r h' => r = str (Lib.join L sep) ∧ h' = h := by
  refine PCalls_kit (by kernel_rfl) fun w s => ?_
  rcases ho.2 with ⟨h1, h2⟩ | ⟨b, c', h1, h2, h3, h4⟩
  · obtain rfl : L = [] := List.eq_nil_of_length_eq_zero h2
    injection h1 with h5 h6 h7
    subst h5
    refine (Try.strings_Join_none none c ⟨sep.toArray⟩ w).mono fun e w' ⟨h8, h9⟩ => ⟨h8, ?_⟩
    rw [h9]; exact Below.refl _ _
  · injection h1 with h5 _ h6
    subst h5; subst h6
    have hm : (L.map fun l : List UInt8 => (⟨l.toArray⟩ : ByteArray)).map (·.data.toList) = L := by
      rw [List.map_map]
      conv => rhs; rw [← List.map_id L]
      exact List.map_congr_left fun l _ => rfl
    have hj := Try.strings_Join b 0 c (L.map fun l : List UInt8 => (⟨l.toArray⟩ : ByteArray)) ⟨sep.toArray⟩ w (fun j x hx => by
      rw [List.getElem?_map] at hx
      obtain ⟨l, hl, rfl⟩ := Option.map_eq_some_iff.1 hx
      refine rd_sound s ?_
      rw [rd_M, h4, rdM_some, Nat.zero_add]
      show (L.map str)[j]? = _
      rw [List.getElem?_map, hl]; rfl) (Nat.lt_of_lt_of_le (h.lt _ _ h4) s.top) (by rw [List.length_map]; omega) (by rw [List.length_map]; exact h2) (by rw [hm]; exact hl)
    rw [hm, List.length_map] at hj
    exact hj
theorem info_str : (Try.prog.info? 9).map (fun i => (i.zero, i.size, i.bytes)) = some (some (.string ⟨#[]⟩), 1, 16) := by kernel_rfl
theorem el_str : El Try.prog 42 9 (.string ⟨#[]⟩) 1 16 := ⟨Try.underlying42, info_parts info_str, rfl, by decide⟩
def elem (p : Pr) : List UInt8 := p.1 ++ 61 :: p.2
def okP (p : Pr) : Bool := token p.1 && p.2.all oct
/-- The first pair that can't be. -/
def firstBad : List Pr → Option Nat
  | [] => none
  | p :: l => if okP p = true then (firstBad l).map (· + 1) else some 0
theorem firstBad_at : ∀ (l : List Pr) (i : Nat) (p : Pr), (l.take i).all okP = true → l[i]? = some p → okP p = false → firstBad l = some i
  | [], i, p, _, h, _ => by simp at h
  | q :: l, 0, p, _, h, hp => by simp at h; subst h; rw [firstBad, if_neg (by simp [hp])]
  | q :: l, i + 1, p, ha, h, hp => by
    rw [List.take_succ_cons, List.all_cons, Bool.and_eq_true] at ha
    rw [firstBad, if_pos ha.1, firstBad_at l i p ha.2 (by simpa using h) hp]; rfl
theorem firstBad_none : ∀ (l : List Pr), l.all okP = true → firstBad l = none
  | [], _ => rfl
  | q :: l, ha => by
    rw [List.all_cons, Bool.and_eq_true] at ha
    rw [firstBad, if_pos ha.1, firstBad_none l ha.2]; rfl
def sepT : List UInt8 := [59, 32]
/-- The header with these pairs. -/
def header (l : List Pr) : List UInt8 := Lib.join (l.map elem) sepT
def Fits (l : List Pr) : Prop := l.length ≤ 100000 ∧ ∀ p ∈ l, p.1.length ≤ 100000 ∧ p.2.length ≤ 100000
theorem joinTail_len (sep : List UInt8) : ∀ (r : List (List UInt8)) (B : Nat), (∀ x ∈ r, x.length ≤ B) → (Lib.joinTail sep r).length ≤ r.length * (sep.length + B)
  | [], B, _ => by simp [Lib.joinTail]
  | x :: r, B, h => by
    have h1 := joinTail_len sep r B fun y hy => h y (List.mem_cons_of_mem _ hy)
    have h2 := h x List.mem_cons_self
    have h3 : Lib.joinTail sep (x :: r) = (sep ++ x) ++ Lib.joinTail sep r := by simp [Lib.joinTail]
    rw [h3, List.length_append, List.length_append, List.length_cons, Nat.add_mul, Nat.one_mul]; omega
theorem header_len {l : List Pr} (h : Fits l) : (header l).length ≤ 140737488355328 := by
  obtain ⟨h1, h2⟩ := h
  unfold header
  cases l with
  | nil => simp [Lib.join]
  | cons p r =>
    rw [List.map_cons, Lib.join_cons, List.length_append]
    have h3 := h2 p List.mem_cons_self
    have h4 := joinTail_len sepT (r.map elem) 200001 fun x hx => by
      obtain ⟨q, hq, rfl⟩ := List.mem_map.1 hx
      have := h2 q (List.mem_cons_of_mem _ hq)
      unfold elem; simp only [List.length_append, List.length_cons]; omega
    have h5 : sepT.length = 2 := rfl
    rw [List.length_map, h5] at h4
    simp only [List.length_cons] at h1
    have h6 : (elem p).length ≤ 200001 := by unfold elem; simp only [List.length_append, List.length_cons]; omega
    have h7 : r.length * (2 + 200001) ≤ 100000 * (2 + 200001) := Nat.mul_le_mul_right _ (by omega)
    omega
def WRITE (h h' : PH) (l : List Pr) (r : Value) : Prop := PH.Le h h' ∧ match firstBad l with
  | none => r = .tuple #[str (header l), .nilIface]
  | some i => ∃ be, r = .tuple #[str [], errV be] ∧ h'.m be = some ⟨[str cookieT, .int .i64 (i : Nat), codeV 1], 3⟩
theorem strs_one (l : List (List UInt8)) : allOne (l.map str) := by
  intro u hu
  obtain ⟨x, _, rfl⟩ := List.mem_map.1 hu
  rfl
set_option maxRecDepth 20000 in
set_option maxHeartbeats 4000000 in
theorem write_any (w0 : World) (h : PH) (A : Option Addr) (c : Nat) (l : List Pr) (hp : Prs w0 h A l) (hc : l.length ≤ c) (hf : Fits l) : PCalls Try.prog w0 8 [.slice A l.length c] h fun r h' => WRITE h h' l r := by
  refine PCalls_body Try.func8 (by kernel_rfl) rfl _ Try.ntmps8 (by kernel_rfl) (by kernel_rfl) _ Try.results8 ?_
  have hl0 := hf.1
  simp -dsimp -implicitDefEqProofs (disch := first | omega | assumption | (simp only [Option.isSome_some, Qt0]; done) | (simp only [UInt64.reduceToNat, UInt32.reduceToNat, UInt8.reduceToNat, List.length_cons, List.length_nil, List.length_append, Int.toNat_natCast] <;> omega)) only [Nat.reduceLT, Nat.reduceLeDiff, Nat.reduceEqDiff, ↓reduceIte, beq_self_eq_true, List.getD_cons_zero, List.getD_cons_succ, Int.reduceLT, Int.reduceLE, Int.reduceToNat, Int.reduceEq, Int.reduceNe, Option.bind_some, List.map_cons, List.map_nil, List.zip_cons_cons, List.zip_nil_left, List.append_nil, List.nil_append, List.cons_append, List.length_cons, List.length_nil, Nat.reduceAdd, UInt8.reduceOfNat, UInt16.reduceOfNat, UInt32.reduceOfNat, UInt64.reduceOfNat, UInt64.reduceToNat, UInt32.reduceToNat, UInt16.reduceToNat, UInt8.reduceToNat, Int.reduceAdd, Int.reduceSub, Int.reduceMul, Nat.reduceMul, ne_eq, eq_self, Option.isNone_some, Option.isNone_none, List.length_set, List.length_replicate, List.getElem?_cons_zero, List.getElem?_cons_succ, Qp0, Qe0]
  refine PW_loopL (fun n f h' => ∃ (i : Nat) (v : Value), n + i = l.length ∧ f 4 = some v ∧ f 7 = some (.slice A l.length c) ∧ f 8 = some (.int .i64 l.length) ∧ f 9 = some (.int .i64 i) ∧ OwnS h h' 1 v i (((l.take i).map elem).map str) ∧ (l.take i).all okP = true) (by kernel_rfl) l.length ⟨0, _, by omega, ?_, ?_, ?_, ?_, OwnS.nil h 1, by simp⟩ ?_
  · simp -dsimp -implicitDefEqProofs (disch := first | omega | assumption | (simp only [Option.isSome_some, Qt0]; done) | (simp only [UInt64.reduceToNat, UInt32.reduceToNat, UInt8.reduceToNat, List.length_cons, List.length_nil, List.length_append, Int.toNat_natCast] <;> omega)) only [Nat.reduceLT, Nat.reduceLeDiff, Nat.reduceEqDiff, ↓reduceIte, beq_self_eq_true, List.getD_cons_zero, List.getD_cons_succ, Int.reduceLT, Int.reduceLE, Int.reduceToNat, Int.reduceEq, Int.reduceNe, Option.bind_some, List.map_cons, List.map_nil, List.zip_cons_cons, List.zip_nil_left, List.append_nil, List.nil_append, List.cons_append, List.length_cons, List.length_nil, Nat.reduceAdd, UInt8.reduceOfNat, UInt16.reduceOfNat, UInt32.reduceOfNat, UInt64.reduceOfNat, UInt64.reduceToNat, UInt32.reduceToNat, UInt16.reduceToNat, UInt8.reduceToNat, Int.reduceAdd, Int.reduceSub, Int.reduceMul, Nat.reduceMul, ne_eq, eq_self, Option.isNone_some, Option.isNone_none, List.length_set, List.length_replicate, List.getElem?_cons_zero, List.getElem?_cons_succ, Qp0, Qe0]
  · simp -dsimp -implicitDefEqProofs (disch := first | omega | assumption | (simp only [Option.isSome_some, Qt0]; done) | (simp only [UInt64.reduceToNat, UInt32.reduceToNat, UInt8.reduceToNat, List.length_cons, List.length_nil, List.length_append, Int.toNat_natCast] <;> omega)) only [Nat.reduceLT, Nat.reduceLeDiff, Nat.reduceEqDiff, ↓reduceIte, beq_self_eq_true, List.getD_cons_zero, List.getD_cons_succ, Int.reduceLT, Int.reduceLE, Int.reduceToNat, Int.reduceEq, Int.reduceNe, Option.bind_some, List.map_cons, List.map_nil, List.zip_cons_cons, List.zip_nil_left, List.append_nil, List.nil_append, List.cons_append, List.length_cons, List.length_nil, Nat.reduceAdd, UInt8.reduceOfNat, UInt16.reduceOfNat, UInt32.reduceOfNat, UInt64.reduceOfNat, UInt64.reduceToNat, UInt32.reduceToNat, UInt16.reduceToNat, UInt8.reduceToNat, Int.reduceAdd, Int.reduceSub, Int.reduceMul, Nat.reduceMul, ne_eq, eq_self, Option.isNone_some, Option.isNone_none, List.length_set, List.length_replicate, List.getElem?_cons_zero, List.getElem?_cons_succ, Qp0, Qe0]
  · simp -dsimp -implicitDefEqProofs (disch := first | omega | assumption | (simp only [Option.isSome_some, Qt0]; done) | (simp only [UInt64.reduceToNat, UInt32.reduceToNat, UInt8.reduceToNat, List.length_cons, List.length_nil, List.length_append, Int.toNat_natCast] <;> omega)) only [Nat.reduceLT, Nat.reduceLeDiff, Nat.reduceEqDiff, ↓reduceIte, beq_self_eq_true, List.getD_cons_zero, List.getD_cons_succ, Int.reduceLT, Int.reduceLE, Int.reduceToNat, Int.reduceEq, Int.reduceNe, Option.bind_some, List.map_cons, List.map_nil, List.zip_cons_cons, List.zip_nil_left, List.append_nil, List.nil_append, List.cons_append, List.length_cons, List.length_nil, Nat.reduceAdd, UInt8.reduceOfNat, UInt16.reduceOfNat, UInt32.reduceOfNat, UInt64.reduceOfNat, UInt64.reduceToNat, UInt32.reduceToNat, UInt16.reduceToNat, UInt8.reduceToNat, Int.reduceAdd, Int.reduceSub, Int.reduceMul, Nat.reduceMul, ne_eq, eq_self, Option.isNone_some, Option.isNone_none, List.length_set, List.length_replicate, List.getElem?_cons_zero, List.getElem?_cons_succ, Qp0, Qe0]
  · simp -dsimp -implicitDefEqProofs (disch := first | omega | assumption | (simp only [Option.isSome_some, Qt0]; done) | (simp only [UInt64.reduceToNat, UInt32.reduceToNat, UInt8.reduceToNat, List.length_cons, List.length_nil, List.length_append, Int.toNat_natCast] <;> omega)) only [Nat.reduceLT, Nat.reduceLeDiff, Nat.reduceEqDiff, ↓reduceIte, beq_self_eq_true, List.getD_cons_zero, List.getD_cons_succ, Int.reduceLT, Int.reduceLE, Int.reduceToNat, Int.reduceEq, Int.reduceNe, Option.bind_some, List.map_cons, List.map_nil, List.zip_cons_cons, List.zip_nil_left, List.append_nil, List.nil_append, List.cons_append, List.length_cons, List.length_nil, Nat.reduceAdd, UInt8.reduceOfNat, UInt16.reduceOfNat, UInt32.reduceOfNat, UInt64.reduceOfNat, UInt64.reduceToNat, UInt32.reduceToNat, UInt16.reduceToNat, UInt8.reduceToNat, Int.reduceAdd, Int.reduceSub, Int.reduceMul, Nat.reduceMul, ne_eq, eq_self, Option.isNone_some, Option.isNone_none, List.length_set, List.length_replicate, List.getElem?_cons_zero, List.getElem?_cons_succ, Qp0, Qe0]
    try rfl
  rintro n f h' ⟨i, v, hni, f4, f7, f8, f9, how, hall⟩ hl'
  obtain ⟨Av, cv, rfl, hcv⟩ := how.own.len
  by_cases hi : i < l.length
  · have e1 : decide ((i : Int) < (l.length : Int)) = true := decide_eq_true (by omega)
    obtain ⟨p, hpi⟩ : ∃ p, l[i]? = some p := ⟨_, List.getElem?_eq_getElem hi⟩
    obtain ⟨hf1, hf2⟩ := hf.2 p (List.mem_of_getElem? hpi)
    have hp' := hp.more how.le
    obtain ⟨b, o, rfl⟩ := hp'.addr (by omega)
    have hrd := hp'.get hl' hpi
    have ha : allOne [str p.1, str p.2] := prs_one [p]
    simp -dsimp -implicitDefEqProofs (disch := first | omega | assumption | (simp only [Option.isSome_some, Qt0]; done) | (simp only [UInt64.reduceToNat, UInt32.reduceToNat, UInt8.reduceToNat, List.length_cons, List.length_nil, List.length_append, Int.toNat_natCast] <;> omega)) only [Nat.reduceLT, Nat.reduceLeDiff, Nat.reduceEqDiff, ↓reduceIte, beq_self_eq_true, List.getD_cons_zero, List.getD_cons_succ, Int.reduceLT, Int.reduceLE, Int.reduceToNat, Int.reduceEq, Int.reduceNe, Option.bind_some, List.map_cons, List.map_nil, List.zip_cons_cons, List.zip_nil_left, List.append_nil, List.nil_append, List.cons_append, List.length_cons, List.length_nil, Nat.reduceAdd, UInt8.reduceOfNat, UInt16.reduceOfNat, UInt32.reduceOfNat, UInt64.reduceOfNat, UInt64.reduceToNat, UInt32.reduceToNat, UInt16.reduceToNat, UInt8.reduceToNat, Int.reduceAdd, Int.reduceSub, Int.reduceMul, Nat.reduceMul, ne_eq, eq_self, Option.isNone_some, Option.isNone_none, List.length_set, List.length_replicate, List.getElem?_cons_zero, List.getElem?_cons_succ, Qp0, Qe0, f4, f7, f8, f9, e1, hrd]
    refine fun xb hxb => ?_
    have hlx := (PH.Le.refl h').new xb ⟨[str p.1, str p.2], 2⟩ hxb
    have hmx : (h'.new xb ⟨[str p.1, str p.2], 2⟩).m xb = some ⟨[str p.1, str p.2], 2⟩ := by rw [PH.new_m, if_pos rfl]
    simp -dsimp -implicitDefEqProofs (disch := first | omega | assumption | (simp only [Option.isSome_some, Qt0]; done) | (simp only [UInt64.reduceToNat, UInt32.reduceToNat, UInt8.reduceToNat, List.length_cons, List.length_nil, List.length_append, Int.toNat_natCast] <;> omega)) only [Nat.reduceLT, Nat.reduceLeDiff, Nat.reduceEqDiff, ↓reduceIte, beq_self_eq_true, List.getD_cons_zero, List.getD_cons_succ, Int.reduceLT, Int.reduceLE, Int.reduceToNat, Int.reduceEq, Int.reduceNe, Option.bind_some, List.map_cons, List.map_nil, List.zip_cons_cons, List.zip_nil_left, List.append_nil, List.nil_append, List.cons_append, List.length_cons, List.length_nil, Nat.reduceAdd, UInt8.reduceOfNat, UInt16.reduceOfNat, UInt32.reduceOfNat, UInt64.reduceOfNat, UInt64.reduceToNat, UInt32.reduceToNat, UInt16.reduceToNat, UInt8.reduceToNat, Int.reduceAdd, Int.reduceSub, Int.reduceMul, Nat.reduceMul, ne_eq, eq_self, Option.isNone_some, Option.isNone_none, List.length_set, List.length_replicate, List.getElem?_cons_zero, List.getElem?_cons_succ, Qp0, Qe0, List.set_cons_zero, List.set_cons_succ, List.take_zero, List.drop_succ_cons, List.drop_zero, List.drop_nil, List.nil_append, List.append_nil, List.take_succ_cons, ite_true, PH.new_new]
    generalize h'.new xb ⟨[str p.1, str p.2], 2⟩ = g at *
    have how := how.more hlx
    have hT := token_any p.1 w0 g (by omega)
    have hO := octets_any p.2 w0 g (by omega)
    obtain ⟨b1, hb1⟩ : ∃ b, token p.1 = b := ⟨_, rfl⟩
    obtain ⟨b2, hb2⟩ : ∃ b, p.2.all oct = b := ⟨_, rfl⟩
    rw [hb1] at hT
    rw [hb2] at hO
    have hT := Lib.hid hT
    have hO := Lib.hid hO
    have hokp : okP p = (b1 && b2) := by unfold okP; rw [hb1, hb2]
    cases b1
    rotate_left
    cases b2
    rotate_left
    · rw [Bool.and_self] at hokp
      have hsnoc : ((l.take (i + 1)).map elem).map str = ((l.take i).map elem).map str ++ [str (p.1 ++ [61] ++ p.2)] := by
        rw [List.take_add_one, hpi]
        simp [elem]
      have hall2 : (l.take (i + 1)).all okP = true := by rw [List.take_add_one, hpi, List.all_append, hall]; simp [hokp]
      simp -dsimp -implicitDefEqProofs (disch := first | omega | assumption | (simp only [Option.isSome_some, Qt0]; done) | (simp only [UInt64.reduceToNat, UInt32.reduceToNat, UInt8.reduceToNat, List.length_cons, List.length_nil, List.length_append, Int.toNat_natCast] <;> omega)) only [Nat.reduceLT, Nat.reduceLeDiff, Nat.reduceEqDiff, ↓reduceIte, beq_self_eq_true, List.getD_cons_zero, List.getD_cons_succ, Int.reduceLT, Int.reduceLE, Int.reduceToNat, Int.reduceEq, Int.reduceNe, Option.bind_some, List.map_cons, List.map_nil, List.zip_cons_cons, List.zip_nil_left, List.append_nil, List.nil_append, List.cons_append, List.length_cons, List.length_nil, Nat.reduceAdd, UInt8.reduceOfNat, UInt16.reduceOfNat, UInt32.reduceOfNat, UInt64.reduceOfNat, UInt64.reduceToNat, UInt32.reduceToNat, UInt16.reduceToNat, UInt8.reduceToNat, Int.reduceAdd, Int.reduceSub, Int.reduceMul, Nat.reduceMul, ne_eq, eq_self, Option.isNone_some, Option.isNone_none, List.length_set, List.length_replicate, List.getElem?_cons_zero, List.getElem?_cons_succ, Qp0, Qe0, f4, f7, f8, f9, rd_M, rdM_some, hmx]
      refine hT.out.mono ?_
      rintro v hq ⟨rfl, hz⟩
      obtain rfl := hz.symm
      simp -dsimp -implicitDefEqProofs (disch := first | omega | assumption | (simp only [Option.isSome_some, Qt0]; done) | (simp only [UInt64.reduceToNat, UInt32.reduceToNat, UInt8.reduceToNat, List.length_cons, List.length_nil, List.length_append, Int.toNat_natCast] <;> omega)) only [Nat.reduceLT, Nat.reduceLeDiff, Nat.reduceEqDiff, ↓reduceIte, beq_self_eq_true, List.getD_cons_zero, List.getD_cons_succ, Int.reduceLT, Int.reduceLE, Int.reduceToNat, Int.reduceEq, Int.reduceNe, Option.bind_some, List.map_cons, List.map_nil, List.zip_cons_cons, List.zip_nil_left, List.append_nil, List.nil_append, List.cons_append, List.length_cons, List.length_nil, Nat.reduceAdd, UInt8.reduceOfNat, UInt16.reduceOfNat, UInt32.reduceOfNat, UInt64.reduceOfNat, UInt64.reduceToNat, UInt32.reduceToNat, UInt16.reduceToNat, UInt8.reduceToNat, Int.reduceAdd, Int.reduceSub, Int.reduceMul, Nat.reduceMul, ne_eq, eq_self, Option.isNone_some, Option.isNone_none, List.length_set, List.length_replicate, List.getElem?_cons_zero, List.getElem?_cons_succ, Qp0, Qe0, f4, f7, f8, f9, rd_M, rdM_some, hmx]
      refine hO.out.mono ?_
      rintro v hq ⟨rfl, hz⟩
      obtain rfl := hz.symm
      simp -dsimp -implicitDefEqProofs (disch := first | omega | assumption | (simp only [Option.isSome_some, Qt0]; done) | (simp only [UInt64.reduceToNat, UInt32.reduceToNat, UInt8.reduceToNat, List.length_cons, List.length_nil, List.length_append, Int.toNat_natCast] <;> omega)) only [Nat.reduceLT, Nat.reduceLeDiff, Nat.reduceEqDiff, ↓reduceIte, beq_self_eq_true, List.getD_cons_zero, List.getD_cons_succ, Int.reduceLT, Int.reduceLE, Int.reduceToNat, Int.reduceEq, Int.reduceNe, Option.bind_some, List.map_cons, List.map_nil, List.zip_cons_cons, List.zip_nil_left, List.append_nil, List.nil_append, List.cons_append, List.length_cons, List.length_nil, Nat.reduceAdd, UInt8.reduceOfNat, UInt16.reduceOfNat, UInt32.reduceOfNat, UInt64.reduceOfNat, UInt64.reduceToNat, UInt32.reduceToNat, UInt16.reduceToNat, UInt8.reduceToNat, Int.reduceAdd, Int.reduceSub, Int.reduceMul, Nat.reduceMul, ne_eq, eq_self, Option.isNone_some, Option.isNone_none, List.length_set, List.length_replicate, List.getElem?_cons_zero, List.getElem?_cons_succ, Qp0, Qe0, f4, f7, f8, f9, rd_M, rdM_some, hmx]
      refine Does_one (v := str (p.1 ++ [61] ++ p.2)) el_str rfl (by omega) fun gb hgb => ?_
      have hl3 := (PH.Le.refl g).new gb ⟨[str (p.1 ++ [61] ++ p.2)], 1⟩ hgb
      have how3 := how.more hl3
      simp -dsimp -implicitDefEqProofs (disch := first | omega | assumption | (simp only [Option.isSome_some, Qt0]; done) | (simp only [UInt64.reduceToNat, UInt32.reduceToNat, UInt8.reduceToNat, List.length_cons, List.length_nil, List.length_append, Int.toNat_natCast] <;> omega)) only [Nat.reduceLT, Nat.reduceLeDiff, Nat.reduceEqDiff, ↓reduceIte, beq_self_eq_true, List.getD_cons_zero, List.getD_cons_succ, Int.reduceLT, Int.reduceLE, Int.reduceToNat, Int.reduceEq, Int.reduceNe, Option.bind_some, List.map_cons, List.map_nil, List.zip_cons_cons, List.zip_nil_left, List.append_nil, List.nil_append, List.cons_append, List.length_cons, List.length_nil, Nat.reduceAdd, UInt8.reduceOfNat, UInt16.reduceOfNat, UInt32.reduceOfNat, UInt64.reduceOfNat, UInt64.reduceToNat, UInt32.reduceToNat, UInt16.reduceToNat, UInt8.reduceToNat, Int.reduceAdd, Int.reduceSub, Int.reduceMul, Nat.reduceMul, ne_eq, eq_self, Option.isNone_some, Option.isNone_none, List.length_set, List.length_replicate, List.getElem?_cons_zero, List.getElem?_cons_succ, Qp0, Qe0, f4, f7, f8, f9]
      refine Does_app el_str how3.own (Rs.blk (k := ⟨[str (p.1 ++ [61] ++ p.2)], 1⟩) (by rw [PH.new_m, if_pos rfl]; rfl) rfl) (strs_one [p.1 ++ [61] ++ p.2]) (by unfold maxLen; omega) (by omega) (fun v' h4 ho hst => ?_)
      rw [← hsnoc] at ho
      have how4 := how3.stays hst ho
      simp -dsimp -implicitDefEqProofs (disch := first | omega | assumption | (simp only [Option.isSome_some, Qt0]; done) | (simp only [UInt64.reduceToNat, UInt32.reduceToNat, UInt8.reduceToNat, List.length_cons, List.length_nil, List.length_append, Int.toNat_natCast] <;> omega)) only [Nat.reduceLT, Nat.reduceLeDiff, Nat.reduceEqDiff, ↓reduceIte, beq_self_eq_true, List.getD_cons_zero, List.getD_cons_succ, Int.reduceLT, Int.reduceLE, Int.reduceToNat, Int.reduceEq, Int.reduceNe, Option.bind_some, List.map_cons, List.map_nil, List.zip_cons_cons, List.zip_nil_left, List.append_nil, List.nil_append, List.cons_append, List.length_cons, List.length_nil, Nat.reduceAdd, UInt8.reduceOfNat, UInt16.reduceOfNat, UInt32.reduceOfNat, UInt64.reduceOfNat, UInt64.reduceToNat, UInt32.reduceToNat, UInt16.reduceToNat, UInt8.reduceToNat, Int.reduceAdd, Int.reduceSub, Int.reduceMul, Nat.reduceMul, ne_eq, eq_self, Option.isNone_some, Option.isNone_none, List.length_set, List.length_replicate, List.getElem?_cons_zero, List.getElem?_cons_succ, Qp0, Qe0, f4, f7, f8, f9]
      exact ⟨n - 1, _, by omega, PH.Le.refl _, i + 1, v', by omega, by trivial, by trivial, by trivial, by simp, how4, hall2⟩
    all_goals
      have hbad := firstBad_at l i p hall hpi (by rw [hokp]; rfl)
      simp -dsimp -implicitDefEqProofs (disch := first | omega | assumption | (simp only [Option.isSome_some, Qt0]; done) | (simp only [UInt64.reduceToNat, UInt32.reduceToNat, UInt8.reduceToNat, List.length_cons, List.length_nil, List.length_append, Int.toNat_natCast] <;> omega)) only [Nat.reduceLT, Nat.reduceLeDiff, Nat.reduceEqDiff, ↓reduceIte, beq_self_eq_true, List.getD_cons_zero, List.getD_cons_succ, Int.reduceLT, Int.reduceLE, Int.reduceToNat, Int.reduceEq, Int.reduceNe, Option.bind_some, List.map_cons, List.map_nil, List.zip_cons_cons, List.zip_nil_left, List.append_nil, List.nil_append, List.cons_append, List.length_cons, List.length_nil, Nat.reduceAdd, UInt8.reduceOfNat, UInt16.reduceOfNat, UInt32.reduceOfNat, UInt64.reduceOfNat, UInt64.reduceToNat, UInt32.reduceToNat, UInt16.reduceToNat, UInt8.reduceToNat, Int.reduceAdd, Int.reduceSub, Int.reduceMul, Nat.reduceMul, ne_eq, eq_self, Option.isNone_some, Option.isNone_none, List.length_set, List.length_replicate, List.getElem?_cons_zero, List.getElem?_cons_succ, Qp0, Qe0, f4, f7, f8, f9, rd_M, rdM_some, hmx]
      repeat
        first | refine hT.out.mono ?_ | refine hO.out.mono ?_
        rintro v hq ⟨rfl, hz⟩
        obtain rfl := hz.symm
        simp -dsimp -implicitDefEqProofs (disch := first | omega | assumption | (simp only [Option.isSome_some, Qt0]; done) | (simp only [UInt64.reduceToNat, UInt32.reduceToNat, UInt8.reduceToNat, List.length_cons, List.length_nil, List.length_append, Int.toNat_natCast] <;> omega)) only [Nat.reduceLT, Nat.reduceLeDiff, Nat.reduceEqDiff, ↓reduceIte, beq_self_eq_true, List.getD_cons_zero, List.getD_cons_succ, Int.reduceLT, Int.reduceLE, Int.reduceToNat, Int.reduceEq, Int.reduceNe, Option.bind_some, List.map_cons, List.map_nil, List.zip_cons_cons, List.zip_nil_left, List.append_nil, List.nil_append, List.cons_append, List.length_cons, List.length_nil, Nat.reduceAdd, UInt8.reduceOfNat, UInt16.reduceOfNat, UInt32.reduceOfNat, UInt64.reduceOfNat, UInt64.reduceToNat, UInt32.reduceToNat, UInt16.reduceToNat, UInt8.reduceToNat, Int.reduceAdd, Int.reduceSub, Int.reduceMul, Nat.reduceMul, ne_eq, eq_self, Option.isNone_some, Option.isNone_none, List.length_set, List.length_replicate, List.getElem?_cons_zero, List.getElem?_cons_succ, Qp0, Qe0, f4, f7, f8, f9, rd_M, rdM_some, hmx]
      refine (at_any cookieT _ _ _ w0 g).mono ?_
      rintro v hq ⟨be, rfl, hbe, rfl⟩
      unfold errV
      simp -dsimp -implicitDefEqProofs (disch := first | omega | assumption | (simp only [Option.isSome_some, Qt0]; done) | (simp only [UInt64.reduceToNat, UInt32.reduceToNat, UInt8.reduceToNat, List.length_cons, List.length_nil, List.length_append, Int.toNat_natCast] <;> omega)) only [Nat.reduceLT, Nat.reduceLeDiff, Nat.reduceEqDiff, ↓reduceIte, beq_self_eq_true, List.getD_cons_zero, List.getD_cons_succ, Int.reduceLT, Int.reduceLE, Int.reduceToNat, Int.reduceEq, Int.reduceNe, Option.bind_some, List.map_cons, List.map_nil, List.zip_cons_cons, List.zip_nil_left, List.append_nil, List.nil_append, List.cons_append, List.length_cons, List.length_nil, Nat.reduceAdd, UInt8.reduceOfNat, UInt16.reduceOfNat, UInt32.reduceOfNat, UInt64.reduceOfNat, UInt64.reduceToNat, UInt32.reduceToNat, UInt16.reduceToNat, UInt8.reduceToNat, Int.reduceAdd, Int.reduceSub, Int.reduceMul, Nat.reduceMul, ne_eq, eq_self, Option.isNone_some, Option.isNone_none, List.length_set, List.length_replicate, List.getElem?_cons_zero, List.getElem?_cons_succ, Qp0, Qe0]
      refine ⟨_, PH.Le.refl _, how.le.trans ((PH.Le.refl g).new _ _ hbe), ?_⟩
      rw [hbad]
      exact ⟨be, rfl, by rw [PH.new_m, if_pos rfl]; rfl⟩
  · have e1 : decide ((i : Int) < (l.length : Int)) = false := decide_eq_false (by omega)
    obtain rfl : i = l.length := by have := how.own.1; omega
    rw [List.take_length] at how hall
    have hlm : l.length = (l.map elem).length := by rw [List.length_map]
    have ho := how.own
    rw [hlm] at ho
    have hJ := join_any w0 h' Av cv (l.map elem) sepT ho (by rw [← hlm]; omega) (header_len hf)
    rw [← hlm] at hJ
    have hJ := Lib.hid hJ
    simp -dsimp -implicitDefEqProofs (disch := first | omega | assumption | (simp only [Option.isSome_some, Qt0]; done) | (simp only [UInt64.reduceToNat, UInt32.reduceToNat, UInt8.reduceToNat, List.length_cons, List.length_nil, List.length_append, Int.toNat_natCast] <;> omega)) only [Nat.reduceLT, Nat.reduceLeDiff, Nat.reduceEqDiff, ↓reduceIte, beq_self_eq_true, List.getD_cons_zero, List.getD_cons_succ, Int.reduceLT, Int.reduceLE, Int.reduceToNat, Int.reduceEq, Int.reduceNe, Option.bind_some, List.map_cons, List.map_nil, List.zip_cons_cons, List.zip_nil_left, List.append_nil, List.nil_append, List.cons_append, List.length_cons, List.length_nil, Nat.reduceAdd, UInt8.reduceOfNat, UInt16.reduceOfNat, UInt32.reduceOfNat, UInt64.reduceOfNat, UInt64.reduceToNat, UInt32.reduceToNat, UInt16.reduceToNat, UInt8.reduceToNat, Int.reduceAdd, Int.reduceSub, Int.reduceMul, Nat.reduceMul, ne_eq, eq_self, Option.isNone_some, Option.isNone_none, List.length_set, List.length_replicate, List.getElem?_cons_zero, List.getElem?_cons_succ, Qp0, Qe0, f4, f7, f8, f9, e1]
    refine hJ.out.mono ?_
    rintro v hq ⟨rfl, hz⟩
    obtain rfl := hz.symm
    simp -dsimp -implicitDefEqProofs (disch := first | omega | assumption | (simp only [Option.isSome_some, Qt0]; done) | (simp only [UInt64.reduceToNat, UInt32.reduceToNat, UInt8.reduceToNat, List.length_cons, List.length_nil, List.length_append, Int.toNat_natCast] <;> omega)) only [Nat.reduceLT, Nat.reduceLeDiff, Nat.reduceEqDiff, ↓reduceIte, beq_self_eq_true, List.getD_cons_zero, List.getD_cons_succ, Int.reduceLT, Int.reduceLE, Int.reduceToNat, Int.reduceEq, Int.reduceNe, Option.bind_some, List.map_cons, List.map_nil, List.zip_cons_cons, List.zip_nil_left, List.append_nil, List.nil_append, List.cons_append, List.length_cons, List.length_nil, Nat.reduceAdd, UInt8.reduceOfNat, UInt16.reduceOfNat, UInt32.reduceOfNat, UInt64.reduceOfNat, UInt64.reduceToNat, UInt32.reduceToNat, UInt16.reduceToNat, UInt8.reduceToNat, Int.reduceAdd, Int.reduceSub, Int.reduceMul, Nat.reduceMul, ne_eq, eq_self, Option.isNone_some, Option.isNone_none, List.length_set, List.length_replicate, List.getElem?_cons_zero, List.getElem?_cons_succ, Qp0, Qe0]
    refine ⟨_, PH.Le.refl _, how.le, ?_⟩
    rw [firstBad_none l hall]
    rfl
end Go.Proofs.Ytefkgpcdabmkkaa
