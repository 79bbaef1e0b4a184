/- Walks: DecodeClaims. No condition. -/
import Derived.Test.YtjpfablpkekdgaaWrf
namespace Go.Proofs.Ytjpfablpkekdgaa
set_option linter.unusedVariables false
set_option linter.unusedSimpArgs false
open Go.RowKit Px Wr
theorem allOne_of (l : List Value) (h : (l.all fun v => v.oneCell') = true) : allOne l := fun v hv => List.all_eq_true.1 h v hv
theorem Px.OwnC.rv {F : Nat → Prop} {w0 : World} {h0 h : PH} {A : Option Addr} {n c : Nat} {xs : List Value} (o : OwnC F h0 h 1 (.slice A n c) n xs) : Rv w0 h A xs := Rv.own o.own
theorem zero_str : (Value.string ⟨#[]⟩) = str [] := rfl
theorem EE_told {h : PH} {n : Nat} {st : St} {v : Value} (e : EE h n st v) : (st = .ok [] ∧ v = .nilIface) ∨ (st ≠ .ok [] ∧ ∃ be p, v = errV be ∧ h.m be = some ⟨[str wireT, .int .i64 p, codeV 2], 3⟩) := by
  cases st with
  | bad p => obtain ⟨be, h1, h2⟩ := e; exact .inr ⟨by simp, be, _, h1, h2⟩
  | ok t =>
    cases t with
    | nil => exact .inl ⟨rfl, e⟩
    | cons c t => obtain ⟨be, h1, h2⟩ := e; exact .inr ⟨by simp, be, _, h1, h2⟩
theorem vecS_len {n : Nat} {v : List Int} {st st' : St} (h : (v, st') = vecS n st) : v.length ≤ 16 := by
  cases st with
  | bad p => injection h with h _; rw [h]; simp
  | ok t =>
    cases hp : vecP t with
    | none => unfold vecS St.step at h; simp only [hp] at h; injection h with h _; rw [h]; simp
    | some q =>
      obtain ⟨a, u⟩ := q
      unfold vecS St.step at h; simp only [hp] at h; injection h with h _; rw [h]
      exact trim_len (vecP_inv hp).2
set_option maxRecDepth 20000 in
set_option maxHeartbeats 4000000 in
theorem decC_any (s : List UInt8) (hs : s.length ≤ 1000000000) (w0 : World) (h : PH) : PCalls Try.prog w0 25 [str s] h fun r h' => DEC w0 h' s r ∧ PH.Le h h' := by
  refine PCalls_body Try.func25 (by kernel_rfl) rfl _ Try.ntmps25 (by kernel_rfl) (by kernel_rfl) _ Try.results25 ?_
  simp -dsimp -implicitDefEqProofs (disch := first | omega | assumption | (simp only [Option.isSome_some, Qt0]; done) | (simp only [UInt64.reduceToNat, UInt32.reduceToNat, UInt8.reduceToNat, List.length_cons, List.length_nil, List.length_append, Int.toNat_natCast] <;> omega)) only [Nat.reduceLT, Nat.reduceLeDiff, Nat.reduceEqDiff, ↓reduceIte, beq_self_eq_true, List.getD_cons_zero, List.getD_cons_succ, Int.reduceLT, Int.reduceLE, Int.reduceToNat, Int.reduceEq, Int.reduceNe, Option.bind_some, List.map_cons, List.map_nil, List.zip_cons_cons, List.zip_nil_left, List.append_nil, List.nil_append, List.cons_append, List.length_cons, List.length_nil, Nat.reduceAdd, UInt8.reduceOfNat, UInt16.reduceOfNat, UInt32.reduceOfNat, UInt64.reduceOfNat, UInt64.reduceToNat, UInt32.reduceToNat, UInt16.reduceToNat, UInt8.reduceToNat, Int.reduceAdd, Int.reduceSub, Int.reduceMul, Nat.reduceMul, ne_eq, eq_self, Option.isNone_some, Option.isNone_none, List.length_set, List.length_replicate, List.getElem?_cons_zero, List.getElem?_cons_succ, Qp0, Qe0]
  refine fun rb hrb => ?_
  have hle := (PH.Le.refl h).new rb ⟨[.string ⟨#[]⟩, .string ⟨#[]⟩, .int .i64 0, .int .i64 0, .int .i64 0, .slice none 0 0], 6⟩ hrb
  have hm : (h.new rb ⟨[.string ⟨#[]⟩, .string ⟨#[]⟩, .int .i64 0, .int .i64 0, .int .i64 0, .slice none 0 0], 6⟩).m rb = some ⟨[.string ⟨#[]⟩, .string ⟨#[]⟩, .int .i64 0, .int .i64 0, .int .i64 0, .slice none 0 0], 6⟩ := by rw [PH.new_m, if_pos rfl]
  simp -dsimp -implicitDefEqProofs (disch := first | omega | assumption | (simp only [Option.isSome_some, Qt0]; done) | (simp only [UInt64.reduceToNat, UInt32.reduceToNat, UInt8.reduceToNat, List.length_cons, List.length_nil, List.length_append, Int.toNat_natCast] <;> omega)) only [Nat.reduceLT, Nat.reduceLeDiff, Nat.reduceEqDiff, ↓reduceIte, beq_self_eq_true, List.getD_cons_zero, List.getD_cons_succ, Int.reduceLT, Int.reduceLE, Int.reduceToNat, Int.reduceEq, Int.reduceNe, Option.bind_some, List.map_cons, List.map_nil, List.zip_cons_cons, List.zip_nil_left, List.append_nil, List.nil_append, List.cons_append, List.length_cons, List.length_nil, Nat.reduceAdd, UInt8.reduceOfNat, UInt16.reduceOfNat, UInt32.reduceOfNat, UInt64.reduceOfNat, UInt64.reduceToNat, UInt32.reduceToNat, UInt16.reduceToNat, UInt8.reduceToNat, Int.reduceAdd, Int.reduceSub, Int.reduceMul, Nat.reduceMul, ne_eq, eq_self, Option.isNone_some, Option.isNone_none, List.length_set, List.length_replicate, List.getElem?_cons_zero, List.getElem?_cons_succ, Qp0, Qe0]
  generalize h.new rb ⟨[.string ⟨#[]⟩, .string ⟨#[]⟩, .int .i64 0, .int .i64 0, .int .i64 0, .slice none 0 0], 6⟩ = h1 at *
  refine (read_any w0 h1 s).mono ?_
  rintro v h2 ⟨ib, rfl, hib, hl2, hi⟩
  have hm2 := hl2.m _ _ hm
  have hle2 := hle.trans hl2
  have hne : rb ≠ ib := by have := h1.lt _ _ hm; omega
  have hc0 := Chg.refl (· = ib) h2
  simp -dsimp -implicitDefEqProofs (disch := first | omega | assumption | (simp only [Option.isSome_some, Qt0]; done) | (simp only [UInt64.reduceToNat, UInt32.reduceToNat, UInt8.reduceToNat, List.length_cons, List.length_nil, List.length_append, Int.toNat_natCast] <;> omega)) only [Nat.reduceLT, Nat.reduceLeDiff, Nat.reduceEqDiff, ↓reduceIte, beq_self_eq_true, List.getD_cons_zero, List.getD_cons_succ, Int.reduceLT, Int.reduceLE, Int.reduceToNat, Int.reduceEq, Int.reduceNe, Option.bind_some, List.map_cons, List.map_nil, List.zip_cons_cons, List.zip_nil_left, List.append_nil, List.nil_append, List.cons_append, List.length_cons, List.length_nil, Nat.reduceAdd, UInt8.reduceOfNat, UInt16.reduceOfNat, UInt32.reduceOfNat, UInt64.reduceOfNat, UInt64.reduceToNat, UInt32.reduceToNat, UInt16.reduceToNat, UInt8.reduceToNat, Int.reduceAdd, Int.reduceSub, Int.reduceMul, Nat.reduceMul, ne_eq, eq_self, Option.isNone_some, Option.isNone_none, List.length_set, List.length_replicate, List.getElem?_cons_zero, List.getElem?_cons_succ, Qp0, Qe0]
  refine (itext_any w0 _ ib s hs 64 _ hi).mono ?_
  rintro v q1 ⟨rfl, hi, hc1⟩
  obtain ⟨⟨x1, s1⟩, e1⟩ : ∃ p, p = txtS 64 s.length (.ok s) := ⟨_, rfl⟩
  rw [← e1] at hi
  rw [← e1]
  simp only at hi
  simp -dsimp -implicitDefEqProofs (disch := first | omega | assumption | (simp only [Option.isSome_some, Qt0]; done) | (simp only [UInt64.reduceToNat, UInt32.reduceToNat, UInt8.reduceToNat, List.length_cons, List.length_nil, List.length_append, Int.toNat_natCast] <;> omega)) only [Nat.reduceLT, Nat.reduceLeDiff, Nat.reduceEqDiff, ↓reduceIte, beq_self_eq_true, List.getD_cons_zero, List.getD_cons_succ, Int.reduceLT, Int.reduceLE, Int.reduceToNat, Int.reduceEq, Int.reduceNe, Option.bind_some, List.map_cons, List.map_nil, List.zip_cons_cons, List.zip_nil_left, List.append_nil, List.nil_append, List.cons_append, List.length_cons, List.length_nil, Nat.reduceAdd, UInt8.reduceOfNat, UInt16.reduceOfNat, UInt32.reduceOfNat, UInt64.reduceOfNat, UInt64.reduceToNat, UInt32.reduceToNat, UInt16.reduceToNat, UInt8.reduceToNat, Int.reduceAdd, Int.reduceSub, Int.reduceMul, Nat.reduceMul, ne_eq, eq_self, Option.isNone_some, Option.isNone_none, List.length_set, List.length_replicate, List.getElem?_cons_zero, List.getElem?_cons_succ, Qp0, Qe0]
  refine (itext_any w0 _ ib s hs 32 _ hi).mono ?_
  rintro v q2 ⟨rfl, hi, hc2⟩
  obtain ⟨⟨x2, s2⟩, e2⟩ : ∃ p, p = txtS 32 s.length s1 := ⟨_, rfl⟩
  rw [← e2] at hi
  rw [← e2]
  simp only at hi
  simp -dsimp -implicitDefEqProofs (disch := first | omega | assumption | (simp only [Option.isSome_some, Qt0]; done) | (simp only [UInt64.reduceToNat, UInt32.reduceToNat, UInt8.reduceToNat, List.length_cons, List.length_nil, List.length_append, Int.toNat_natCast] <;> omega)) only [Nat.reduceLT, Nat.reduceLeDiff, Nat.reduceEqDiff, ↓reduceIte, beq_self_eq_true, List.getD_cons_zero, List.getD_cons_succ, Int.reduceLT, Int.reduceLE, Int.reduceToNat, Int.reduceEq, Int.reduceNe, Option.bind_some, List.map_cons, List.map_nil, List.zip_cons_cons, List.zip_nil_left, List.append_nil, List.nil_append, List.cons_append, List.length_cons, List.length_nil, Nat.reduceAdd, UInt8.reduceOfNat, UInt16.reduceOfNat, UInt32.reduceOfNat, UInt64.reduceOfNat, UInt64.reduceToNat, UInt32.reduceToNat, UInt16.reduceToNat, UInt8.reduceToNat, Int.reduceAdd, Int.reduceSub, Int.reduceMul, Nat.reduceMul, ne_eq, eq_self, Option.isNone_some, Option.isNone_none, List.length_set, List.length_replicate, List.getElem?_cons_zero, List.getElem?_cons_succ, Qp0, Qe0]
  refine (inum_any w0 _ ib s hs 1099511627776 _ hi).mono ?_
  rintro v q3 ⟨rfl, hi, hc3⟩
  obtain ⟨⟨x3, s3⟩, e3⟩ : ∃ p, p = numS 1099511627776 s.length s2 := ⟨_, rfl⟩
  rw [← e3] at hi
  rw [← e3]
  simp only at hi
  simp -dsimp -implicitDefEqProofs (disch := first | omega | assumption | (simp only [Option.isSome_some, Qt0]; done) | (simp only [UInt64.reduceToNat, UInt32.reduceToNat, UInt8.reduceToNat, List.length_cons, List.length_nil, List.length_append, Int.toNat_natCast] <;> omega)) only [Nat.reduceLT, Nat.reduceLeDiff, Nat.reduceEqDiff, ↓reduceIte, beq_self_eq_true, List.getD_cons_zero, List.getD_cons_succ, Int.reduceLT, Int.reduceLE, Int.reduceToNat, Int.reduceEq, Int.reduceNe, Option.bind_some, List.map_cons, List.map_nil, List.zip_cons_cons, List.zip_nil_left, List.append_nil, List.nil_append, List.cons_append, List.length_cons, List.length_nil, Nat.reduceAdd, UInt8.reduceOfNat, UInt16.reduceOfNat, UInt32.reduceOfNat, UInt64.reduceOfNat, UInt64.reduceToNat, UInt32.reduceToNat, UInt16.reduceToNat, UInt8.reduceToNat, Int.reduceAdd, Int.reduceSub, Int.reduceMul, Nat.reduceMul, ne_eq, eq_self, Option.isNone_some, Option.isNone_none, List.length_set, List.length_replicate, List.getElem?_cons_zero, List.getElem?_cons_succ, Qp0, Qe0]
  refine (inum_any w0 _ ib s hs 1099511627776 _ hi).mono ?_
  rintro v q4 ⟨rfl, hi, hc4⟩
  obtain ⟨⟨x4, s4⟩, e4⟩ : ∃ p, p = numS 1099511627776 s.length s3 := ⟨_, rfl⟩
  rw [← e4] at hi
  rw [← e4]
  simp only at hi
  simp -dsimp -implicitDefEqProofs (disch := first | omega | assumption | (simp only [Option.isSome_some, Qt0]; done) | (simp only [UInt64.reduceToNat, UInt32.reduceToNat, UInt8.reduceToNat, List.length_cons, List.length_nil, List.length_append, Int.toNat_natCast] <;> omega)) only [Nat.reduceLT, Nat.reduceLeDiff, Nat.reduceEqDiff, ↓reduceIte, beq_self_eq_true, List.getD_cons_zero, List.getD_cons_succ, Int.reduceLT, Int.reduceLE, Int.reduceToNat, Int.reduceEq, Int.reduceNe, Option.bind_some, List.map_cons, List.map_nil, List.zip_cons_cons, List.zip_nil_left, List.append_nil, List.nil_append, List.cons_append, List.length_cons, List.length_nil, Nat.reduceAdd, UInt8.reduceOfNat, UInt16.reduceOfNat, UInt32.reduceOfNat, UInt64.reduceOfNat, UInt64.reduceToNat, UInt32.reduceToNat, UInt16.reduceToNat, UInt8.reduceToNat, Int.reduceAdd, Int.reduceSub, Int.reduceMul, Nat.reduceMul, ne_eq, eq_self, Option.isNone_some, Option.isNone_none, List.length_set, List.length_replicate, List.getElem?_cons_zero, List.getElem?_cons_succ, Qp0, Qe0]
  refine (inum_any w0 _ ib s hs 1099511627776 _ hi).mono ?_
  rintro v q5 ⟨rfl, hi, hc5⟩
  obtain ⟨⟨x5, s5⟩, e5⟩ : ∃ p, p = numS 1099511627776 s.length s4 := ⟨_, rfl⟩
  rw [← e5] at hi
  rw [← e5]
  simp only at hi
  simp -dsimp -implicitDefEqProofs (disch := first | omega | assumption | (simp only [Option.isSome_some, Qt0]; done) | (simp only [UInt64.reduceToNat, UInt32.reduceToNat, UInt8.reduceToNat, List.length_cons, List.length_nil, List.length_append, Int.toNat_natCast] <;> omega)) only [Nat.reduceLT, Nat.reduceLeDiff, Nat.reduceEqDiff, ↓reduceIte, beq_self_eq_true, List.getD_cons_zero, List.getD_cons_succ, Int.reduceLT, Int.reduceLE, Int.reduceToNat, Int.reduceEq, Int.reduceNe, Option.bind_some, List.map_cons, List.map_nil, List.zip_cons_cons, List.zip_nil_left, List.append_nil, List.nil_append, List.cons_append, List.length_cons, List.length_nil, Nat.reduceAdd, UInt8.reduceOfNat, UInt16.reduceOfNat, UInt32.reduceOfNat, UInt64.reduceOfNat, UInt64.reduceToNat, UInt32.reduceToNat, UInt16.reduceToNat, UInt8.reduceToNat, Int.reduceAdd, Int.reduceSub, Int.reduceMul, Nat.reduceMul, ne_eq, eq_self, Option.isNone_some, Option.isNone_none, List.length_set, List.length_replicate, List.getElem?_cons_zero, List.getElem?_cons_succ, Qp0, Qe0]
  refine (ivec_any w0 _ ib s hs _ hi).mono ?_
  rintro v q6 ⟨A, cap, rfl, how, hi⟩
  obtain ⟨⟨x6, s6⟩, e6⟩ : ∃ p, p = vecS s.length s5 := ⟨_, rfl⟩
  rw [← e6] at hi how
  rw [← e6]
  simp only at hi how
  have hch : ChC 64 32 1099511627776 s.length s x1 x2 x3 x4 x5 x6 s1 s2 s3 s4 s5 s6 := ⟨e1, e2, e3, e4, e5, e6⟩
  have hc6 := ((((hc1.trans hc2).trans hc3).trans hc4).trans hc5).trans how.chg
  have hm6 := hc6.m _ _ hm2 hne
  have hle6 : PH.Le h q6 := ⟨Nat.le_trans hle2.top hc6.top, fun x k e => hc6.m x k (hle2.m x k e) (fun e' => by have := h.lt _ _ e; have := hle.top; omega)⟩
  obtain ⟨_, _, hA, hcap⟩ := how.own.len
  injection hA with hA1 hA2 hA3
  subst hA1; subst hA3
  have hrv : Rv w0 q6 A (ints x6) := how.rv
  have hnA : ∀ a, A = some a → a.block ≠ rb := fun a ea e => by
    have h5 := how.new _ (how.own.A a ea)
    have h6 := h1.lt _ _ hm
    have h7 := hl2.top
    have h8 := ((((hc1.trans hc2).trans hc3).trans hc4).trans hc5).top
    omega
  clear hc1 hc2 hc3 hc4 hc5 how
  simp -dsimp -implicitDefEqProofs (disch := first | omega | assumption | (simp only [Option.isSome_some, Qt0]; done) | (simp only [UInt64.reduceToNat, UInt32.reduceToNat, UInt8.reduceToNat, List.length_cons, List.length_nil, List.length_append, Int.toNat_natCast] <;> omega)) only [Nat.reduceLT, Nat.reduceLeDiff, Nat.reduceEqDiff, ↓reduceIte, beq_self_eq_true, List.getD_cons_zero, List.getD_cons_succ, Int.reduceLT, Int.reduceLE, Int.reduceToNat, Int.reduceEq, Int.reduceNe, Option.bind_some, List.map_cons, List.map_nil, List.zip_cons_cons, List.zip_nil_left, List.append_nil, List.nil_append, List.cons_append, List.length_cons, List.length_nil, Nat.reduceAdd, UInt8.reduceOfNat, UInt16.reduceOfNat, UInt32.reduceOfNat, UInt64.reduceOfNat, UInt64.reduceToNat, UInt32.reduceToNat, UInt16.reduceToNat, UInt8.reduceToNat, Int.reduceAdd, Int.reduceSub, Int.reduceMul, Nat.reduceMul, ne_eq, eq_self, Option.isNone_some, Option.isNone_none, List.length_set, List.length_replicate, List.getElem?_cons_zero, List.getElem?_cons_succ, Qp0, Qe0]
  refine fun cb hcb => ?_
  have hlc := (PH.Le.refl q6).new cb ⟨[str x1, str x2, .int .i64 x3, .int .i64 x4, .int .i64 x5, .slice A x6.length cap], 6⟩ hcb
  have hmc : (q6.new cb ⟨[str x1, str x2, .int .i64 x3, .int .i64 x4, .int .i64 x5, .slice A x6.length cap], 6⟩).m cb = some ⟨[str x1, str x2, .int .i64 x3, .int .i64 x4, .int .i64 x5, .slice A x6.length cap], 6⟩ := by rw [PH.new_m, if_pos rfl]
  have ha := allOne_of [str x1, str x2, .int .i64 x3, .int .i64 x4, .int .i64 x5, .slice A x6.length cap] rfl
  simp -dsimp -implicitDefEqProofs (disch := first | omega | assumption | (simp only [Option.isSome_some, Qt0]; done) | (simp only [UInt64.reduceToNat, UInt32.reduceToNat, UInt8.reduceToNat, List.length_cons, List.length_nil, List.length_append, Int.toNat_natCast] <;> omega)) only [Nat.reduceLT, Nat.reduceLeDiff, Nat.reduceEqDiff, ↓reduceIte, beq_self_eq_true, List.getD_cons_zero, List.getD_cons_succ, Int.reduceLT, Int.reduceLE, Int.reduceToNat, Int.reduceEq, Int.reduceNe, Option.bind_some, List.map_cons, List.map_nil, List.zip_cons_cons, List.zip_nil_left, List.append_nil, List.nil_append, List.cons_append, List.length_cons, List.length_nil, Nat.reduceAdd, UInt8.reduceOfNat, UInt16.reduceOfNat, UInt32.reduceOfNat, UInt64.reduceOfNat, UInt64.reduceToNat, UInt32.reduceToNat, UInt16.reduceToNat, UInt8.reduceToNat, Int.reduceAdd, Int.reduceSub, Int.reduceMul, Nat.reduceMul, ne_eq, eq_self, Option.isNone_some, Option.isNone_none, List.length_set, List.length_replicate, List.getElem?_cons_zero, List.getElem?_cons_succ, Qp0, Qe0, PH.new_new, List.take_zero, List.drop_succ_cons, List.drop_zero, List.drop_nil, List.append_nil, ite_true]
  generalize q6.new cb ⟨[str x1, str x2, .int .i64 x3, .int .i64 x4, .int .i64 x5, .slice A x6.length cap], 6⟩ = q7 at *
  have hi7 := hi.more hlc
  have hm7 := hlc.m _ _ hm6
  refine (end_any w0 q7 ib s s6 hi7).mono ?_
  rintro v q8 ⟨he, hl8⟩
  have hm8 := hl8.m _ _ hm7
  have hmc8 := hl8.m _ _ hmc
  have hle8 := (hle6.trans hlc).trans hl8
  have hrv8 := (hrv.more hlc).more hl8
  have hC0 : rdN w0 q8 ⟨cb, 0, none⟩ 6 = some [str x1, str x2, .int .i64 x3, .int .i64 x4, .int .i64 x5, .slice A x6.length cap] := by unfold rdN; simp only [hmc8]; rfl
  have hrbt := h.top
  have hrb0 : h.top ≤ rb := hrb
  have hz := allOne_of [.string ⟨#[]⟩, .string ⟨#[]⟩, .int .i64 0, .int .i64 0, .int .i64 0, .slice none 0 0] rfl
  rcases EE_told he with ⟨rfl, rfl⟩ | ⟨hn, be, p, rfl, hbe⟩
  · have hs0 := hch.back rfl
    have hR := rightC_any w0 q8 ⟨x1, x2, x3, x4, x5, x6⟩ A cap hrv8 hcap (by have := vecS_len e6; simp only; omega)
    unfold clL at hR
    simp only at hR
    cases hr : rightC ⟨x1, x2, x3, x4, x5, x6⟩ with
    | true =>
      rw [hr] at hR
      have hR := Lib.hid hR
      simp -dsimp -implicitDefEqProofs (disch := first | omega | assumption | (simp only [Option.isSome_some, Qt0]; done) | (simp only [UInt64.reduceToNat, UInt32.reduceToNat, UInt8.reduceToNat, List.length_cons, List.length_nil, List.length_append, Int.toNat_natCast] <;> omega)) only [Nat.reduceLT, Nat.reduceLeDiff, Nat.reduceEqDiff, ↓reduceIte, beq_self_eq_true, List.getD_cons_zero, List.getD_cons_succ, Int.reduceLT, Int.reduceLE, Int.reduceToNat, Int.reduceEq, Int.reduceNe, Option.bind_some, List.map_cons, List.map_nil, List.zip_cons_cons, List.zip_nil_left, List.append_nil, List.nil_append, List.cons_append, List.length_cons, List.length_nil, Nat.reduceAdd, UInt8.reduceOfNat, UInt16.reduceOfNat, UInt32.reduceOfNat, UInt64.reduceOfNat, UInt64.reduceToNat, UInt32.reduceToNat, UInt16.reduceToNat, UInt8.reduceToNat, Int.reduceAdd, Int.reduceSub, Int.reduceMul, Nat.reduceMul, ne_eq, eq_self, Option.isNone_some, Option.isNone_none, List.length_set, List.length_replicate, List.getElem?_cons_zero, List.getElem?_cons_succ, Qp0, Qe0, hC0]
      refine hR.out.mono ?_
      rintro v hq ⟨rfl, hz⟩
      obtain rfl := hz.symm
      simp -dsimp -implicitDefEqProofs (disch := first | omega | assumption | (simp only [Option.isSome_some, Qt0]; done) | (simp only [UInt64.reduceToNat, UInt32.reduceToNat, UInt8.reduceToNat, List.length_cons, List.length_nil, List.length_append, Int.toNat_natCast] <;> omega)) only [Nat.reduceLT, Nat.reduceLeDiff, Nat.reduceEqDiff, ↓reduceIte, beq_self_eq_true, List.getD_cons_zero, List.getD_cons_succ, Int.reduceLT, Int.reduceLE, Int.reduceToNat, Int.reduceEq, Int.reduceNe, Option.bind_some, List.map_cons, List.map_nil, List.zip_cons_cons, List.zip_nil_left, List.append_nil, List.nil_append, List.cons_append, List.length_cons, List.length_nil, Nat.reduceAdd, UInt8.reduceOfNat, UInt16.reduceOfNat, UInt32.reduceOfNat, UInt64.reduceOfNat, UInt64.reduceToNat, UInt32.reduceToNat, UInt16.reduceToNat, UInt8.reduceToNat, Int.reduceAdd, Int.reduceSub, Int.reduceMul, Nat.reduceMul, ne_eq, eq_self, Option.isNone_some, Option.isNone_none, List.length_set, List.length_replicate, List.getElem?_cons_zero, List.getElem?_cons_succ, Qp0, Qe0, hC0, hm8, List.take_zero, List.drop_succ_cons, List.drop_zero, List.drop_nil, List.nil_append, List.append_nil, rdN_new, List.take_succ_cons, ite_true]
      refine ⟨_, PH.Le.refl _, .inl ⟨⟨x1, x2, x3, x4, x5, x6⟩, A, cap, ⟨hr, hs0⟩, rfl, hcap, ?_⟩, hle8.new _ _ hrb0⟩
      exact hrv8.chg (F := (· = rb)) ((Chg.refl _ _).one _) (fun a ea e => by
        subst ea
        exact hnA a rfl e)
    | false =>
      rw [hr] at hR
      have hR := Lib.hid hR
      simp -dsimp -implicitDefEqProofs (disch := first | omega | assumption | (simp only [Option.isSome_some, Qt0]; done) | (simp only [UInt64.reduceToNat, UInt32.reduceToNat, UInt8.reduceToNat, List.length_cons, List.length_nil, List.length_append, Int.toNat_natCast] <;> omega)) only [Nat.reduceLT, Nat.reduceLeDiff, Nat.reduceEqDiff, ↓reduceIte, beq_self_eq_true, List.getD_cons_zero, List.getD_cons_succ, Int.reduceLT, Int.reduceLE, Int.reduceToNat, Int.reduceEq, Int.reduceNe, Option.bind_some, List.map_cons, List.map_nil, List.zip_cons_cons, List.zip_nil_left, List.append_nil, List.nil_append, List.cons_append, List.length_cons, List.length_nil, Nat.reduceAdd, UInt8.reduceOfNat, UInt16.reduceOfNat, UInt32.reduceOfNat, UInt64.reduceOfNat, UInt64.reduceToNat, UInt32.reduceToNat, UInt16.reduceToNat, UInt8.reduceToNat, Int.reduceAdd, Int.reduceSub, Int.reduceMul, Nat.reduceMul, ne_eq, eq_self, Option.isNone_some, Option.isNone_none, List.length_set, List.length_replicate, List.getElem?_cons_zero, List.getElem?_cons_succ, Qp0, Qe0, hC0]
      refine hR.out.mono ?_
      rintro v hq ⟨rfl, hz⟩
      obtain rfl := hz.symm
      simp -dsimp -implicitDefEqProofs (disch := first | omega | assumption | (simp only [Option.isSome_some, Qt0]; done) | (simp only [UInt64.reduceToNat, UInt32.reduceToNat, UInt8.reduceToNat, List.length_cons, List.length_nil, List.length_append, Int.toNat_natCast] <;> omega)) only [Nat.reduceLT, Nat.reduceLeDiff, Nat.reduceEqDiff, ↓reduceIte, beq_self_eq_true, List.getD_cons_zero, List.getD_cons_succ, Int.reduceLT, Int.reduceLE, Int.reduceToNat, Int.reduceEq, Int.reduceNe, Option.bind_some, List.map_cons, List.map_nil, List.zip_cons_cons, List.zip_nil_left, List.append_nil, List.nil_append, List.cons_append, List.length_cons, List.length_nil, Nat.reduceAdd, UInt8.reduceOfNat, UInt16.reduceOfNat, UInt32.reduceOfNat, UInt64.reduceOfNat, UInt64.reduceToNat, UInt32.reduceToNat, UInt16.reduceToNat, UInt8.reduceToNat, Int.reduceAdd, Int.reduceSub, Int.reduceMul, Nat.reduceMul, ne_eq, eq_self, Option.isNone_some, Option.isNone_none, List.length_set, List.length_replicate, List.getElem?_cons_zero, List.getElem?_cons_succ, Qp0, Qe0]
      refine (at_any wireT _ _ _ w0 _).mono ?_
      rintro v q9 ⟨be, rfl, hbe, rfl⟩
      have hl9 := (PH.Le.refl q8).new be ⟨[str wireT, .int .i64 0, .iface 57 (.int .i64 2)], 3⟩ hbe
      have hmb : (q8.new be ⟨[str wireT, .int .i64 0, .iface 57 (.int .i64 2)], 3⟩).m be = some ⟨[str wireT, .int .i64 0, .iface 57 (.int .i64 2)], 3⟩ := by rw [PH.new_m, if_pos rfl]
      have hm9 := hl9.m _ _ hm8
      have hnb : be ≠ rb := by have := q8.lt _ _ hm8; omega
      generalize q8.new be ⟨[str wireT, .int .i64 0, .iface 57 (.int .i64 2)], 3⟩ = q9 at *
      unfold errV
      simp -dsimp -implicitDefEqProofs (disch := first | omega | assumption | (simp only [Option.isSome_some, Qt0]; done) | (simp only [UInt64.reduceToNat, UInt32.reduceToNat, UInt8.reduceToNat, List.length_cons, List.length_nil, List.length_append, Int.toNat_natCast] <;> omega)) only [Nat.reduceLT, Nat.reduceLeDiff, Nat.reduceEqDiff, ↓reduceIte, beq_self_eq_true, List.getD_cons_zero, List.getD_cons_succ, Int.reduceLT, Int.reduceLE, Int.reduceToNat, Int.reduceEq, Int.reduceNe, Option.bind_some, List.map_cons, List.map_nil, List.zip_cons_cons, List.zip_nil_left, List.append_nil, List.nil_append, List.cons_append, List.length_cons, List.length_nil, Nat.reduceAdd, UInt8.reduceOfNat, UInt16.reduceOfNat, UInt32.reduceOfNat, UInt64.reduceOfNat, UInt64.reduceToNat, UInt32.reduceToNat, UInt16.reduceToNat, UInt8.reduceToNat, Int.reduceAdd, Int.reduceSub, Int.reduceMul, Nat.reduceMul, ne_eq, eq_self, Option.isNone_some, Option.isNone_none, List.length_set, List.length_replicate, List.getElem?_cons_zero, List.getElem?_cons_succ, Qp0, Qe0, hm9, List.take_zero, List.drop_succ_cons, List.drop_zero, List.drop_nil, List.nil_append, List.append_nil, rdN_new, List.take_succ_cons, ite_true]
      refine ⟨_, PH.Le.refl _, .inr ⟨fun d hd => ?_, _, .wrap wireT 0 (.code 2), rfl, ⟨be, _, rfl, by rw [PH.new_m, if_neg hnb]; exact hmb, rfl⟩, rfl⟩, (hle8.trans hl9).new _ _ hrb0⟩
      obtain ⟨h5, _⟩ := hch.fwd (by omega) (by omega) (by omega) hd
      rw [h5] at hd
      rw [hd.1] at hr; cases hr
  · unfold errV
    have hnb : be ≠ rb := fun e => by
      rw [e, hm8] at hbe
      injection hbe with hbe
      injection hbe with _ hbe
      omega
    simp -dsimp -implicitDefEqProofs (disch := first | omega | assumption | (simp only [Option.isSome_some, Qt0]; done) | (simp only [UInt64.reduceToNat, UInt32.reduceToNat, UInt8.reduceToNat, List.length_cons, List.length_nil, List.length_append, Int.toNat_natCast] <;> omega)) only [Nat.reduceLT, Nat.reduceLeDiff, Nat.reduceEqDiff, ↓reduceIte, beq_self_eq_true, List.getD_cons_zero, List.getD_cons_succ, Int.reduceLT, Int.reduceLE, Int.reduceToNat, Int.reduceEq, Int.reduceNe, Option.bind_some, List.map_cons, List.map_nil, List.zip_cons_cons, List.zip_nil_left, List.append_nil, List.nil_append, List.cons_append, List.length_cons, List.length_nil, Nat.reduceAdd, UInt8.reduceOfNat, UInt16.reduceOfNat, UInt32.reduceOfNat, UInt64.reduceOfNat, UInt64.reduceToNat, UInt32.reduceToNat, UInt16.reduceToNat, UInt8.reduceToNat, Int.reduceAdd, Int.reduceSub, Int.reduceMul, Nat.reduceMul, ne_eq, eq_self, Option.isNone_some, Option.isNone_none, List.length_set, List.length_replicate, List.getElem?_cons_zero, List.getElem?_cons_succ, Qp0, Qe0, hm8, List.take_zero, List.drop_succ_cons, List.drop_zero, List.drop_nil, List.nil_append, List.append_nil, rdN_new, List.take_succ_cons, ite_true]
    refine ⟨_, PH.Le.refl _, .inr ⟨fun d hd => ?_, _, .wrap wireT p (.code 2), rfl, ⟨be, _, rfl, by rw [PH.new_m, if_neg hnb]; exact hbe, rfl⟩, rfl⟩, hle8.new _ _ hrb0⟩
    exact hn (hch.fwd (by omega) (by omega) (by omega) hd).2
end Go.Proofs.Ytjpfablpkekdgaa
