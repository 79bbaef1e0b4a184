/- Cookie headers: the document's Write; what is written is read back. No condition. -/
import Derived.Test.YtefkgpcdabmkkaaDoorCk9
import Derived.Test.YtefkgpcdabmkkaaDoorCk6
namespace Go.Proofs.YtefkgpcdabmkkaaDoor
set_option linter.unusedVariables false
set_option linter.unusedSimpArgs false
open Go.RowKit Px Tx Ck
theorem header_cons (q r : Pr) (L : List Pr) : header (q :: r :: L) = elem q ++ (sepT ++ header (r :: L)) := by
  unfold header; rw [List.map_cons, List.map_cons, join_more]
theorem header_one (q : Pr) : header [q] = elem q := by unfold header; rw [List.map_cons, List.map_nil, Lib.join_one]
theorem header_snoc : ∀ (L : List Pr) (p : Pr), L ≠ [] → header (L ++ [p]) = header L ++ (sepT ++ elem p)
  | [], p, h => absurd rfl h
  | [q], p, _ => by rw [List.cons_append, List.nil_append, header_cons, header_one, header_one]
  | q :: r :: L, p, _ => by
    have ih := header_snoc (r :: L) p (by simp)
    rw [List.cons_append, List.cons_append, header_cons, header_cons, ← List.cons_append, ih]
    simp only [List.append_assoc]
theorem okP_parts {p : Pr} (h : okP p = true) : p.1 ≠ [] ∧ p.1.all tokc = true ∧ p.2.all oct = true := by
  unfold okP token at h
  simp only [Bool.and_eq_true, decide_eq_true_eq] at h
  exact ⟨h.1.2, h.1.1, h.2⟩
theorem pars_header : ∀ (l : List Pr) (n : Nat), l ≠ [] → l.all okP = true → (header l).length < n → pars n (header l) = .inl l
  | [], _, h, _, _ => absurd rfl h
  | _ :: _, 0, _, _, h => absurd h (by omega)
  | [p], n + 1, _, ha, _ => by
    rw [List.all_cons, Bool.and_eq_true] at ha
    obtain ⟨h1, h2, h3⟩ := okP_parts ha.1
    rw [header_one, pars_val (a := p.1) (v := p.2) (q := []) (by rw [List.append_nil]; rfl) h1 h2 h3 (.inl rfl), if_pos rfl]
  | p :: q :: r, n + 1, _, ha, hn => by
    rw [List.all_cons, Bool.and_eq_true] at ha
    obtain ⟨h1, h2, h3⟩ := okP_parts ha.1
    have hh : header (p :: q :: r) = p.1 ++ 61 :: (p.2 ++ 59 :: 32 :: header (q :: r)) := by rw [header_cons]; simp [elem, sepT]
    have ih := pars_header (q :: r) n (by simp) ha.2 (by rw [hh] at hn; simp only [List.length_append, List.length_cons] at hn; omega)
    rw [hh, pars_val (a := p.1) (v := p.2) (q := 59 :: 32 :: header (q :: r)) rfl h1 h2 h3 (.inr ⟨59, _, rfl, oct59⟩), if_neg (by simp), if_neg (by simp), if_neg (by simp)]
    simp only [List.tail_cons]
    rw [ih]; rfl
theorem header_pos {l : List Pr} (h : l ≠ []) : header l ≠ [] := by
  cases l with
  | nil => exact absurd rfl h
  | cons p r =>
    cases r with
    | nil => rw [header_one]; simp [elem]
    | cons q r => rw [header_cons]; simp [elem]
theorem parse_header {l : List Pr} (ha : l.all okP = true) : parse (header l) = .inl l := by
  unfold parse
  cases l with
  | nil => rfl
  | cons p r => rw [if_neg (header_pos (by simp)), pars_header _ _ (by simp) ha (by omega)]
theorem rdN_two {w0 : World} {h : PH} {b o : Nat} {x y : Value} (e : rdN w0 h ⟨b, o, none⟩ 2 = some [x, y]) : rdM w0 (h.m b) b o = some x ∧ rdM w0 (h.m b) b (o + 1) = some y := by
  unfold rdN at e
  cases hm : h.m b with
  | some k =>
    simp only [hm] at e
    split at e
    · injection e with e
      have h0 := congrArg (·[0]?) e
      have h1 := congrArg (·[1]?) e
      simp only [List.getElem?_take, List.getElem?_drop] at h0 h1
      exact ⟨by rw [rdM_some]; simpa using h0, by rw [rdM_some]; simpa using h1⟩
    · cases e
  | none =>
    simp only [hm] at e
    obtain ⟨_, h2⟩ := mapM_some e
    obtain ⟨y0, e0, f0⟩ := h2 0 0 (by simp)
    obtain ⟨y1, e1, f1⟩ := h2 1 1 (by simp)
    simp only [List.getElem?_cons_zero, List.getElem?_cons_succ, Option.some.injEq] at e0 e1
    subst e0; subst e1
    rw [Addr.add_mid, rd_M, hm, Nat.add_zero] at f0
    rw [Addr.add_mid, rd_M, hm] at f1
    exact ⟨f0, f1⟩
theorem firstBad_all : ∀ (l : List Pr), firstBad l = none → l.all okP = true
  | [], _ => rfl
  | p :: l, h => by
    rw [firstBad] at h
    split at h
    · rename_i hp
      rw [List.all_cons, hp, firstBad_all l (by simpa using h)]; rfl
    · cases h
theorem Fits.take {l : List Pr} (h : Fits l) (i : Nat) : Fits (l.take i) := ⟨by rw [List.length_take]; have := h.1; omega, fun p hp => h.2 p (List.mem_of_mem_take hp)⟩
def wpair (l : List Pr) : Value := match firstBad l with
  | none => .tuple #[str (header l), .int .i64 (-1)]
  | some i => .tuple #[str [], .int .i64 (i : Nat)]
set_option maxRecDepth 20000 in
set_option maxHeartbeats 4000000 in
theorem rwrite_any (w0 : World) (h : PH) (A : Option Addr) (c : Nat) (l : List Pr) (hp : Prs w0 h A l) (hc : l.length ≤ c) (hf : Fits l) : PCalls Tryd.prog w0 14 [.slice A l.length c] h fun r h' => r = wpair l ∧ h' = h := by
  refine PCalls_low fun hl => ?_
  refine PCalls_body Tryd.func14 (by kernel_rfl) rfl _ Tryd.ntmps14 (by kernel_rfl) (by kernel_rfl) _ Tryd.results14 ?_
  have hl0 := hf.1
  simp -dsimp -implicitDefEqProofs (disch := first | omega | assumption | (simp only [Option.isSome_some, Qt0]; done) | (simp only [UInt64.reduceToNat, UInt32.reduceToNat, UInt8.reduceToNat, List.length_cons, List.length_nil, List.length_append, Int.toNat_natCast] <;> omega)) only [Nat.reduceLT, Nat.reduceLeDiff, Nat.reduceEqDiff, ↓reduceIte, beq_self_eq_true, List.getD_cons_zero, List.getD_cons_succ, Int.reduceLT, Int.reduceLE, Int.reduceToNat, Int.reduceEq, Int.reduceNe, Option.bind_some, List.map_cons, List.map_nil, List.zip_cons_cons, List.zip_nil_left, List.append_nil, List.nil_append, List.cons_append, List.length_cons, List.length_nil, Nat.reduceAdd, UInt8.reduceOfNat, UInt16.reduceOfNat, UInt32.reduceOfNat, UInt64.reduceOfNat, UInt64.reduceToNat, UInt32.reduceToNat, UInt16.reduceToNat, UInt8.reduceToNat, Int.reduceAdd, Int.reduceSub, Int.reduceMul, Nat.reduceMul, ne_eq, eq_self, Option.isNone_some, Option.isNone_none, List.length_set, List.length_replicate, List.getElem?_cons_zero, List.getElem?_cons_succ, Qp0, Qe0]
  refine PW_loop (fun n f h' => ∃ (i : Nat), n + i = l.length ∧ f 0 = some (.slice A l.length c) ∧ f 4 = some (str (header (l.take i))) ∧ f 5 = some (.int .i64 i) ∧ h' = h ∧ (l.take i).all okP = true) (by kernel_rfl) l.length ⟨0, by omega, ?_, ?_, ?_, rfl, by simp⟩ ?_
  · simp -dsimp -implicitDefEqProofs (disch := first | omega | assumption | (simp only [Option.isSome_some, Qt0]; done) | (simp only [UInt64.reduceToNat, UInt32.reduceToNat, UInt8.reduceToNat, List.length_cons, List.length_nil, List.length_append, Int.toNat_natCast] <;> omega)) only [Nat.reduceLT, Nat.reduceLeDiff, Nat.reduceEqDiff, ↓reduceIte, beq_self_eq_true, List.getD_cons_zero, List.getD_cons_succ, Int.reduceLT, Int.reduceLE, Int.reduceToNat, Int.reduceEq, Int.reduceNe, Option.bind_some, List.map_cons, List.map_nil, List.zip_cons_cons, List.zip_nil_left, List.append_nil, List.nil_append, List.cons_append, List.length_cons, List.length_nil, Nat.reduceAdd, UInt8.reduceOfNat, UInt16.reduceOfNat, UInt32.reduceOfNat, UInt64.reduceOfNat, UInt64.reduceToNat, UInt32.reduceToNat, UInt16.reduceToNat, UInt8.reduceToNat, Int.reduceAdd, Int.reduceSub, Int.reduceMul, Nat.reduceMul, ne_eq, eq_self, Option.isNone_some, Option.isNone_none, List.length_set, List.length_replicate, List.getElem?_cons_zero, List.getElem?_cons_succ, Qp0, Qe0]
  · simp -dsimp -implicitDefEqProofs (disch := first | omega | assumption | (simp only [Option.isSome_some, Qt0]; done) | (simp only [UInt64.reduceToNat, UInt32.reduceToNat, UInt8.reduceToNat, List.length_cons, List.length_nil, List.length_append, Int.toNat_natCast] <;> omega)) only [Nat.reduceLT, Nat.reduceLeDiff, Nat.reduceEqDiff, ↓reduceIte, beq_self_eq_true, List.getD_cons_zero, List.getD_cons_succ, Int.reduceLT, Int.reduceLE, Int.reduceToNat, Int.reduceEq, Int.reduceNe, Option.bind_some, List.map_cons, List.map_nil, List.zip_cons_cons, List.zip_nil_left, List.append_nil, List.nil_append, List.cons_append, List.length_cons, List.length_nil, Nat.reduceAdd, UInt8.reduceOfNat, UInt16.reduceOfNat, UInt32.reduceOfNat, UInt64.reduceOfNat, UInt64.reduceToNat, UInt32.reduceToNat, UInt16.reduceToNat, UInt8.reduceToNat, Int.reduceAdd, Int.reduceSub, Int.reduceMul, Nat.reduceMul, ne_eq, eq_self, Option.isNone_some, Option.isNone_none, List.length_set, List.length_replicate, List.getElem?_cons_zero, List.getElem?_cons_succ, Qp0, Qe0]
    try rfl
  · simp -dsimp -implicitDefEqProofs (disch := first | omega | assumption | (simp only [Option.isSome_some, Qt0]; done) | (simp only [UInt64.reduceToNat, UInt32.reduceToNat, UInt8.reduceToNat, List.length_cons, List.length_nil, List.length_append, Int.toNat_natCast] <;> omega)) only [Nat.reduceLT, Nat.reduceLeDiff, Nat.reduceEqDiff, ↓reduceIte, beq_self_eq_true, List.getD_cons_zero, List.getD_cons_succ, Int.reduceLT, Int.reduceLE, Int.reduceToNat, Int.reduceEq, Int.reduceNe, Option.bind_some, List.map_cons, List.map_nil, List.zip_cons_cons, List.zip_nil_left, List.append_nil, List.nil_append, List.cons_append, List.length_cons, List.length_nil, Nat.reduceAdd, UInt8.reduceOfNat, UInt16.reduceOfNat, UInt32.reduceOfNat, UInt64.reduceOfNat, UInt64.reduceToNat, UInt32.reduceToNat, UInt16.reduceToNat, UInt8.reduceToNat, Int.reduceAdd, Int.reduceSub, Int.reduceMul, Nat.reduceMul, ne_eq, eq_self, Option.isNone_some, Option.isNone_none, List.length_set, List.length_replicate, List.getElem?_cons_zero, List.getElem?_cons_succ, Qp0, Qe0]
    try rfl
  rintro n f h' ⟨i, hni, f0, f4, f5, rfl, hall⟩
  by_cases hi : i < l.length
  · have e1 : decide ((i : Int) < (l.length : Int)) = true := decide_eq_true (by omega)
    obtain ⟨p, hpi⟩ : ∃ p, l[i]? = some p := ⟨_, List.getElem?_eq_getElem hi⟩
    obtain ⟨hf1, hf2⟩ := hf.2 p (List.mem_of_getElem? hpi)
    obtain ⟨b, o, rfl⟩ := hp.addr (by omega)
    obtain ⟨q0, q1⟩ := rdN_two (hp.get hl hpi)
    have hT := rtoken_any p.1 w0 h' (by omega)
    have hO := roctets_any p.2 w0 h' (by omega)
    have hhl := header_len (hf.take i)
    have hnext : header (l.take (i + 1)) = if i = 0 then elem p else header (l.take i) ++ (sepT ++ elem p) := by
      rw [List.take_add_one, hpi]
      by_cases h0 : i = 0
      · subst h0; rw [if_pos rfl]; simp [header_one]
      · rw [if_neg h0]
        exact header_snoc _ p (by intro e; have := congrArg List.length e; rw [List.length_take, List.length_nil] at this; omega)
    obtain ⟨H, hH⟩ : ∃ H, header (l.take i) = H := ⟨_, rfl⟩
    rw [hH] at f4 hhl hnext
    obtain ⟨b1, hb1⟩ : ∃ b, token p.1 = b := ⟨_, rfl⟩
    obtain ⟨b2, hb2⟩ : ∃ b, p.2.all oct = b := ⟨_, rfl⟩
    rw [hb1] at hT
    rw [hb2] at hO
    have hT := Lib.hid hT
    have hO := Lib.hid hO
    have hokp : okP p = (b1 && b2) := by unfold okP; rw [hb1, hb2]
    have hsep : sepT.length = 2 := rfl
    cases b1
    rotate_left
    cases b2
    rotate_left
    · rw [Bool.and_self] at hokp
      have hall2 : (l.take (i + 1)).all okP = true := by rw [List.take_add_one, hpi, List.all_append, hall]; simp [hokp]
      by_cases h0 : i = 0
      · subst h0
        have hHe : H = [] := by rw [← hH]; rfl
        subst hHe
        rw [if_pos rfl] at hnext
        have e2 : decide ((0 : Int) > 0) = false := rfl
        replace e1 : decide ((0 : Int) < (l.length : Int)) = true := e1
        replace f5 : f 5 = some (.int .i64 0) := f5
        rw [Nat.zero_mul, Nat.add_zero] at q0 q1
        have hE : header (l.take 1) = p.1 ++ [61] ++ p.2 := by rw [hnext]; simp [elem]
        simp -dsimp -implicitDefEqProofs (disch := first | omega | assumption | (simp only [Option.isSome_some, Qt0]; done) | (simp only [UInt64.reduceToNat, UInt32.reduceToNat, UInt8.reduceToNat, List.length_cons, List.length_nil, List.length_append, Int.toNat_natCast] <;> omega)) only [Nat.reduceLT, Nat.reduceLeDiff, Nat.reduceEqDiff, ↓reduceIte, beq_self_eq_true, List.getD_cons_zero, List.getD_cons_succ, Int.reduceLT, Int.reduceLE, Int.reduceToNat, Int.reduceEq, Int.reduceNe, Option.bind_some, List.map_cons, List.map_nil, List.zip_cons_cons, List.zip_nil_left, List.append_nil, List.nil_append, List.cons_append, List.length_cons, List.length_nil, Nat.reduceAdd, UInt8.reduceOfNat, UInt16.reduceOfNat, UInt32.reduceOfNat, UInt64.reduceOfNat, UInt64.reduceToNat, UInt32.reduceToNat, UInt16.reduceToNat, UInt8.reduceToNat, Int.reduceAdd, Int.reduceSub, Int.reduceMul, Nat.reduceMul, ne_eq, eq_self, Option.isNone_some, Option.isNone_none, List.length_set, List.length_replicate, List.getElem?_cons_zero, List.getElem?_cons_succ, Qp0, Qe0, f0, f4, f5, e1, rd_M, q0, q1]
        refine hT.out.mono ?_
        rintro v hq ⟨rfl, hz⟩
        obtain rfl := hz.symm
        simp -dsimp -implicitDefEqProofs (disch := first | omega | assumption | (simp only [Option.isSome_some, Qt0]; done) | (simp only [UInt64.reduceToNat, UInt32.reduceToNat, UInt8.reduceToNat, List.length_cons, List.length_nil, List.length_append, Int.toNat_natCast] <;> omega)) only [Nat.reduceLT, Nat.reduceLeDiff, Nat.reduceEqDiff, ↓reduceIte, beq_self_eq_true, List.getD_cons_zero, List.getD_cons_succ, Int.reduceLT, Int.reduceLE, Int.reduceToNat, Int.reduceEq, Int.reduceNe, Option.bind_some, List.map_cons, List.map_nil, List.zip_cons_cons, List.zip_nil_left, List.append_nil, List.nil_append, List.cons_append, List.length_cons, List.length_nil, Nat.reduceAdd, UInt8.reduceOfNat, UInt16.reduceOfNat, UInt32.reduceOfNat, UInt64.reduceOfNat, UInt64.reduceToNat, UInt32.reduceToNat, UInt16.reduceToNat, UInt8.reduceToNat, Int.reduceAdd, Int.reduceSub, Int.reduceMul, Nat.reduceMul, ne_eq, eq_self, Option.isNone_some, Option.isNone_none, List.length_set, List.length_replicate, List.getElem?_cons_zero, List.getElem?_cons_succ, Qp0, Qe0, f0, f4, f5, rd_M, q0, q1]
        refine hO.out.mono ?_
        rintro v hq ⟨rfl, hz⟩
        obtain rfl := hz.symm
        simp -dsimp -implicitDefEqProofs (disch := first | omega | assumption | (simp only [Option.isSome_some, Qt0]; done) | (simp only [UInt64.reduceToNat, UInt32.reduceToNat, UInt8.reduceToNat, List.length_cons, List.length_nil, List.length_append, Int.toNat_natCast] <;> omega)) only [Nat.reduceLT, Nat.reduceLeDiff, Nat.reduceEqDiff, ↓reduceIte, beq_self_eq_true, List.getD_cons_zero, List.getD_cons_succ, Int.reduceLT, Int.reduceLE, Int.reduceToNat, Int.reduceEq, Int.reduceNe, Option.bind_some, List.map_cons, List.map_nil, List.zip_cons_cons, List.zip_nil_left, List.append_nil, List.nil_append, List.cons_append, List.length_cons, List.length_nil, Nat.reduceAdd, UInt8.reduceOfNat, UInt16.reduceOfNat, UInt32.reduceOfNat, UInt64.reduceOfNat, UInt64.reduceToNat, UInt32.reduceToNat, UInt16.reduceToNat, UInt8.reduceToNat, Int.reduceAdd, Int.reduceSub, Int.reduceMul, Nat.reduceMul, ne_eq, eq_self, Option.isNone_some, Option.isNone_none, List.length_set, List.length_replicate, List.getElem?_cons_zero, List.getElem?_cons_succ, Qp0, Qe0, f0, f4, f5, rd_M, q0, q1, e2]
        refine PW_drawn 15 _ (by kernel_rfl) (by kernel_rfl) (by kernel_rfl) (by kernel_rfl) (by kernel_rfl) (fun c f h hq => by simp only [thenC_panic, thenK_panic, inBlk_panic, thenN_panic, vcRet_panic] at hq) (PH.Le.refl _).sub ?_
        simp -dsimp -implicitDefEqProofs (disch := first | omega | assumption | (simp only [Option.isSome_some, Qt0]; done) | (simp only [UInt64.reduceToNat, UInt32.reduceToNat, UInt8.reduceToNat, List.length_cons, List.length_nil, List.length_append, Int.toNat_natCast] <;> omega)) only [Nat.reduceLT, Nat.reduceLeDiff, Nat.reduceEqDiff, ↓reduceIte, beq_self_eq_true, List.getD_cons_zero, List.getD_cons_succ, Int.reduceLT, Int.reduceLE, Int.reduceToNat, Int.reduceEq, Int.reduceNe, Option.bind_some, List.map_cons, List.map_nil, List.zip_cons_cons, List.zip_nil_left, List.append_nil, List.nil_append, List.cons_append, List.length_cons, List.length_nil, Nat.reduceAdd, UInt8.reduceOfNat, UInt16.reduceOfNat, UInt32.reduceOfNat, UInt64.reduceOfNat, UInt64.reduceToNat, UInt32.reduceToNat, UInt16.reduceToNat, UInt8.reduceToNat, Int.reduceAdd, Int.reduceSub, Int.reduceMul, Nat.reduceMul, ne_eq, eq_self, Option.isNone_some, Option.isNone_none, List.length_set, List.length_replicate, List.getElem?_cons_zero, List.getElem?_cons_succ, Qp0, Qe0, f0, f4, f5, rd_M, q0, q1]
        exact ⟨n - 1, _, by omega, PH.Le.refl _, 1, by omega, by trivial, by rw [hE], by simp, rfl, hall2⟩
      · rw [if_neg h0] at hnext
        have e2 : decide ((i : Int) > 0) = true := decide_eq_true (by omega)
        have hE : header (l.take (i + 1)) = H ++ [59, 32] ++ p.1 ++ [61] ++ p.2 := by rw [hnext]; simp [elem, sepT]
        simp -dsimp -implicitDefEqProofs (disch := first | omega | assumption | (simp only [Option.isSome_some, Qt0]; done) | (simp only [UInt64.reduceToNat, UInt32.reduceToNat, UInt8.reduceToNat, List.length_cons, List.length_nil, List.length_append, Int.toNat_natCast] <;> omega)) only [Nat.reduceLT, Nat.reduceLeDiff, Nat.reduceEqDiff, ↓reduceIte, beq_self_eq_true, List.getD_cons_zero, List.getD_cons_succ, Int.reduceLT, Int.reduceLE, Int.reduceToNat, Int.reduceEq, Int.reduceNe, Option.bind_some, List.map_cons, List.map_nil, List.zip_cons_cons, List.zip_nil_left, List.append_nil, List.nil_append, List.cons_append, List.length_cons, List.length_nil, Nat.reduceAdd, UInt8.reduceOfNat, UInt16.reduceOfNat, UInt32.reduceOfNat, UInt64.reduceOfNat, UInt64.reduceToNat, UInt32.reduceToNat, UInt16.reduceToNat, UInt8.reduceToNat, Int.reduceAdd, Int.reduceSub, Int.reduceMul, Nat.reduceMul, ne_eq, eq_self, Option.isNone_some, Option.isNone_none, List.length_set, List.length_replicate, List.getElem?_cons_zero, List.getElem?_cons_succ, Qp0, Qe0, f0, f4, f5, e1, rd_M, q0, q1]
        refine hT.out.mono ?_
        rintro v hq ⟨rfl, hz⟩
        obtain rfl := hz.symm
        simp -dsimp -implicitDefEqProofs (disch := first | omega | assumption | (simp only [Option.isSome_some, Qt0]; done) | (simp only [UInt64.reduceToNat, UInt32.reduceToNat, UInt8.reduceToNat, List.length_cons, List.length_nil, List.length_append, Int.toNat_natCast] <;> omega)) only [Nat.reduceLT, Nat.reduceLeDiff, Nat.reduceEqDiff, ↓reduceIte, beq_self_eq_true, List.getD_cons_zero, List.getD_cons_succ, Int.reduceLT, Int.reduceLE, Int.reduceToNat, Int.reduceEq, Int.reduceNe, Option.bind_some, List.map_cons, List.map_nil, List.zip_cons_cons, List.zip_nil_left, List.append_nil, List.nil_append, List.cons_append, List.length_cons, List.length_nil, Nat.reduceAdd, UInt8.reduceOfNat, UInt16.reduceOfNat, UInt32.reduceOfNat, UInt64.reduceOfNat, UInt64.reduceToNat, UInt32.reduceToNat, UInt16.reduceToNat, UInt8.reduceToNat, Int.reduceAdd, Int.reduceSub, Int.reduceMul, Nat.reduceMul, ne_eq, eq_self, Option.isNone_some, Option.isNone_none, List.length_set, List.length_replicate, List.getElem?_cons_zero, List.getElem?_cons_succ, Qp0, Qe0, f0, f4, f5, rd_M, q0, q1]
        refine hO.out.mono ?_
        rintro v hq ⟨rfl, hz⟩
        obtain rfl := hz.symm
        simp -dsimp -implicitDefEqProofs (disch := first | omega | assumption | (simp only [Option.isSome_some, Qt0]; done) | (simp only [UInt64.reduceToNat, UInt32.reduceToNat, UInt8.reduceToNat, List.length_cons, List.length_nil, List.length_append, Int.toNat_natCast] <;> omega)) only [Nat.reduceLT, Nat.reduceLeDiff, Nat.reduceEqDiff, ↓reduceIte, beq_self_eq_true, List.getD_cons_zero, List.getD_cons_succ, Int.reduceLT, Int.reduceLE, Int.reduceToNat, Int.reduceEq, Int.reduceNe, Option.bind_some, List.map_cons, List.map_nil, List.zip_cons_cons, List.zip_nil_left, List.append_nil, List.nil_append, List.cons_append, List.length_cons, List.length_nil, Nat.reduceAdd, UInt8.reduceOfNat, UInt16.reduceOfNat, UInt32.reduceOfNat, UInt64.reduceOfNat, UInt64.reduceToNat, UInt32.reduceToNat, UInt16.reduceToNat, UInt8.reduceToNat, Int.reduceAdd, Int.reduceSub, Int.reduceMul, Nat.reduceMul, ne_eq, eq_self, Option.isNone_some, Option.isNone_none, List.length_set, List.length_replicate, List.getElem?_cons_zero, List.getElem?_cons_succ, Qp0, Qe0, f0, f4, f5, rd_M, q0, q1, e2]
        refine PW_drawn 15 _ (by kernel_rfl) (by kernel_rfl) (by kernel_rfl) (by kernel_rfl) (by kernel_rfl) (fun c f h hq => by simp only [thenC_panic, thenK_panic, inBlk_panic, thenN_panic, vcRet_panic] at hq) (PH.Le.refl _).sub ?_
        simp -dsimp -implicitDefEqProofs (disch := first | omega | assumption | (simp only [Option.isSome_some, Qt0]; done) | (simp only [UInt64.reduceToNat, UInt32.reduceToNat, UInt8.reduceToNat, List.length_cons, List.length_nil, List.length_append, Int.toNat_natCast] <;> omega)) only [Nat.reduceLT, Nat.reduceLeDiff, Nat.reduceEqDiff, ↓reduceIte, beq_self_eq_true, List.getD_cons_zero, List.getD_cons_succ, Int.reduceLT, Int.reduceLE, Int.reduceToNat, Int.reduceEq, Int.reduceNe, Option.bind_some, List.map_cons, List.map_nil, List.zip_cons_cons, List.zip_nil_left, List.append_nil, List.nil_append, List.cons_append, List.length_cons, List.length_nil, Nat.reduceAdd, UInt8.reduceOfNat, UInt16.reduceOfNat, UInt32.reduceOfNat, UInt64.reduceOfNat, UInt64.reduceToNat, UInt32.reduceToNat, UInt16.reduceToNat, UInt8.reduceToNat, Int.reduceAdd, Int.reduceSub, Int.reduceMul, Nat.reduceMul, ne_eq, eq_self, Option.isNone_some, Option.isNone_none, List.length_set, List.length_replicate, List.getElem?_cons_zero, List.getElem?_cons_succ, Qp0, Qe0, f0, f4, f5, rd_M, q0, q1]
        exact ⟨n - 1, _, by omega, PH.Le.refl _, i + 1, by omega, by trivial, by rw [hE], by simp, rfl, hall2⟩
    all_goals
      have hbad := firstBad_at l i p hall hpi (by rw [hokp]; rfl)
      simp -dsimp -implicitDefEqProofs (disch := first | omega | assumption | (simp only [Option.isSome_some, Qt0]; done) | (simp only [UInt64.reduceToNat, UInt32.reduceToNat, UInt8.reduceToNat, List.length_cons, List.length_nil, List.length_append, Int.toNat_natCast] <;> omega)) only [Nat.reduceLT, Nat.reduceLeDiff, Nat.reduceEqDiff, ↓reduceIte, beq_self_eq_true, List.getD_cons_zero, List.getD_cons_succ, Int.reduceLT, Int.reduceLE, Int.reduceToNat, Int.reduceEq, Int.reduceNe, Option.bind_some, List.map_cons, List.map_nil, List.zip_cons_cons, List.zip_nil_left, List.append_nil, List.nil_append, List.cons_append, List.length_cons, List.length_nil, Nat.reduceAdd, UInt8.reduceOfNat, UInt16.reduceOfNat, UInt32.reduceOfNat, UInt64.reduceOfNat, UInt64.reduceToNat, UInt32.reduceToNat, UInt16.reduceToNat, UInt8.reduceToNat, Int.reduceAdd, Int.reduceSub, Int.reduceMul, Nat.reduceMul, ne_eq, eq_self, Option.isNone_some, Option.isNone_none, List.length_set, List.length_replicate, List.getElem?_cons_zero, List.getElem?_cons_succ, Qp0, Qe0, f0, f4, f5, e1, rd_M, q0, q1]
      repeat
        first | refine hT.out.mono ?_ | refine hO.out.mono ?_
        rintro v hq ⟨rfl, hz⟩
        obtain rfl := hz.symm
        simp -dsimp -implicitDefEqProofs (disch := first | omega | assumption | (simp only [Option.isSome_some, Qt0]; done) | (simp only [UInt64.reduceToNat, UInt32.reduceToNat, UInt8.reduceToNat, List.length_cons, List.length_nil, List.length_append, Int.toNat_natCast] <;> omega)) only [Nat.reduceLT, Nat.reduceLeDiff, Nat.reduceEqDiff, ↓reduceIte, beq_self_eq_true, List.getD_cons_zero, List.getD_cons_succ, Int.reduceLT, Int.reduceLE, Int.reduceToNat, Int.reduceEq, Int.reduceNe, Option.bind_some, List.map_cons, List.map_nil, List.zip_cons_cons, List.zip_nil_left, List.append_nil, List.nil_append, List.cons_append, List.length_cons, List.length_nil, Nat.reduceAdd, UInt8.reduceOfNat, UInt16.reduceOfNat, UInt32.reduceOfNat, UInt64.reduceOfNat, UInt64.reduceToNat, UInt32.reduceToNat, UInt16.reduceToNat, UInt8.reduceToNat, Int.reduceAdd, Int.reduceSub, Int.reduceMul, Nat.reduceMul, ne_eq, eq_self, Option.isNone_some, Option.isNone_none, List.length_set, List.length_replicate, List.getElem?_cons_zero, List.getElem?_cons_succ, Qp0, Qe0, f0, f4, f5, rd_M, q0, q1]
      refine ⟨_, PH.Le.refl _, ?_, rfl⟩
      unfold wpair
      rw [hbad]
  · have e1 : decide ((i : Int) < (l.length : Int)) = false := decide_eq_false (by omega)
    rw [List.take_of_length_le (by omega)] at hall f4
    simp -dsimp -implicitDefEqProofs (disch := first | omega | assumption | (simp only [Option.isSome_some, Qt0]; done) | (simp only [UInt64.reduceToNat, UInt32.reduceToNat, UInt8.reduceToNat, List.length_cons, List.length_nil, List.length_append, Int.toNat_natCast] <;> omega)) only [Nat.reduceLT, Nat.reduceLeDiff, Nat.reduceEqDiff, ↓reduceIte, beq_self_eq_true, List.getD_cons_zero, List.getD_cons_succ, Int.reduceLT, Int.reduceLE, Int.reduceToNat, Int.reduceEq, Int.reduceNe, Option.bind_some, List.map_cons, List.map_nil, List.zip_cons_cons, List.zip_nil_left, List.append_nil, List.nil_append, List.cons_append, List.length_cons, List.length_nil, Nat.reduceAdd, UInt8.reduceOfNat, UInt16.reduceOfNat, UInt32.reduceOfNat, UInt64.reduceOfNat, UInt64.reduceToNat, UInt32.reduceToNat, UInt16.reduceToNat, UInt8.reduceToNat, Int.reduceAdd, Int.reduceSub, Int.reduceMul, Nat.reduceMul, ne_eq, eq_self, Option.isNone_some, Option.isNone_none, List.length_set, List.length_replicate, List.getElem?_cons_zero, List.getElem?_cons_succ, Qp0, Qe0, f0, f4, f5, e1]
    refine ⟨_, PH.Le.refl _, ?_, rfl⟩
    unfold wpair
    rw [firstBad_none l hall]
end Go.Proofs.YtefkgpcdabmkkaaDoor
