/- Parts Wrb, Wrc, Wrd, Wdi, Wrf, Wrg, Wrh, Wri, Wrj, joined. No condition. -/
import Derived.Test.YtdhgmifgjaedbaaM6C
/- The bytes of claims and of writes: what Encode does. No condition. -/
namespace Go.Proofs.Ytdhgmifgjaedbaa
set_option linter.unusedVariables false
set_option linter.unusedSimpArgs false
open Go.RowKit Px Wr
def bytesC (c : Cl) : List UInt8 := textB c.s ++ (textB c.u ++ (numB c.e.toNat ++ (numB c.i.toNat ++ (numB c.k.toNat ++ vecB c.x))))
def bytesW (c : Wt) : List UInt8 := numB c.r.toNat ++ (numB c.n.toNat ++ (numB c.t.toNat ++ (vecB c.d ++ (textB c.s ++ (textB c.k ++ (flagB c.g ++ (textB c.v ++ numB c.l.toNat)))))))
theorem inB_iff {n m : Int} : inB n m = true ↔ m ≤ n ∧ n ≤ 1099511627776 := by unfold inB; simp
theorem rightC_iff {c : Cl} : rightC c = true ↔ 1 ≤ c.s.length ∧ c.s.length ≤ 64 ∧ 1 ≤ c.u.length ∧ c.u.length ≤ 32 ∧ (0 ≤ c.e ∧ c.e ≤ 1099511627776) ∧ (0 ≤ c.i ∧ c.i ≤ 1099511627776) ∧ (0 ≤ c.k ∧ c.k ≤ 1099511627776) ∧ trim c.x 1099511627776 = true := by
  unfold rightC
  simp only [Bool.and_eq_true, decide_eq_true_eq, inB_iff, and_assoc]
  refine and_congr (by omega) (and_congr (by omega) (and_congr (by omega) (and_congr (by omega) Iff.rfl)))
theorem rightW_iff {c : Wt} : rightW c = true ↔ 1 ≤ c.r ∧ c.r ≤ 16 ∧ (1 ≤ c.n ∧ c.n ≤ 1099511627776) ∧ c.q = c.r ∧ (1 ≤ c.t ∧ c.t ≤ 1099511627776) ∧ trim c.d 1099511627776 = true ∧ 1 ≤ c.s.length ∧ c.s.length ≤ 64 ∧ c.k.length ≤ 32 ∧ c.v.length ≤ 128 ∧ (c.g = false ∨ c.v = []) ∧ (0 ≤ c.l ∧ c.l ≤ 1099511627776) := by
  unfold rightW
  simp only [Bool.and_eq_true, Bool.or_eq_true, Bool.not_eq_true', decide_eq_true_eq, inB_iff, and_assoc]
  constructor <;> (rintro ⟨a1, a2, a3, a4, a5, a6, a7, a8, a9, a10, a11, a12, a13, a14, a15⟩; exact ⟨by omega, by omega, a3, a4, a5, a6, a7, a8, by omega, by omega, by omega, by omega, a13, a14, a15⟩)
theorem textB_len {y : List UInt8} {k : Nat} (h : y.length ≤ k) (hk : k ≤ 1000) : (textB y).length ≤ k + 9 := by
  unfold textB; have := numB_len9 (n := y.length) (by omega); simp; omega
theorem flagB_len (b : Bool) : (flagB b).length ≤ 9 := by unfold flagB; exact numB_len9 (by split <;> omega)
theorem encW_chain {c : Wt} (h : rightW c = true) : numM (textM (flagM (textM (textM (vecM (numM (numM (numM ([], none) c.r) c.n) c.t) c.d) c.s) c.k) c.g) c.v) c.l = (bytesW c, none) := by
  obtain ⟨h1, h2, ⟨h3, h4⟩, h5, ⟨h6, h7⟩, h8, h9, h10, h11, h12, _, ⟨h13, h14⟩⟩ := rightW_iff.1 h
  have l1 := numB_len9 (n := c.r.toNat) (by omega)
  have l2 := numB_len9 (n := c.n.toNat) (by omega)
  have l3 := numB_len9 (n := c.t.toNat) (by omega)
  have l4 := vecB_len h8
  have l5 := textB_len h10 (by omega)
  have l6 := textB_len h11 (by omega)
  have l7 := textB_len h12 (by omega)
  have l8 := flagB_len c.g
  rw [numM_ok _ _ (by omega) (by omega) (by simp), numM_ok _ _ (by omega) h4 (by simp; omega), numM_ok _ _ (by omega) h7 (by simp; omega), vecM_ok _ _ h8 (by simp; omega), textM_ok _ _ (by omega) (by simp; omega), textM_ok _ _ (by omega) (by simp; omega), flagM_ok _ _ (by simp; omega), textM_ok _ _ (by omega) (by simp; omega), numM_ok _ _ h13 h14 (by simp; omega)]
  unfold bytesW
  simp only [List.nil_append, List.append_assoc]
/-- What Encode tells. -/
def ENC (h : PH) (ok : Bool) (b : List UInt8) (v : Value) : Prop := if ok = true then v = .tuple #[str b, .nilIface] else ∃ ev, v = .tuple #[str [], ev] ∧ EV h (.wrap wireT 0 (.code 1)) ev
set_option maxRecDepth 20000 in
set_option maxHeartbeats 4000000 in
theorem encW_any (w0 : World) (h : PH) (c : Wt) (A : Option Addr) (cap : Nat) (hr : Rv w0 h A (ints c.d)) (hc : c.d.length ≤ cap) (hx : c.d.length ≤ 1000000) : PCalls Try.prog w0 20 [.agg (wtL c A cap).toArray] h fun r h' => ENC h' (rightW c) (bytesW c) r ∧ PH.Le h h' := by
  refine PCalls_body Try.func20 (by kernel_rfl) rfl _ Try.ntmps20 (by kernel_rfl) (by kernel_rfl) _ Try.results20 ?_
  unfold wtL
  simp -dsimp -implicitDefEqProofs (disch := first | omega | assumption | (simp only [Option.isSome_some, Qt0]; done) | (simp only [UInt64.reduceToNat, UInt32.reduceToNat, UInt8.reduceToNat, List.length_cons, List.length_nil, List.length_append, Int.toNat_natCast] <;> omega) | fail) only [Nat.reduceLT, Nat.reduceLeDiff, Nat.reduceEqDiff, ↓reduceIte, Int.reduceLT, Int.reduceLE, Int.reduceToNat, Int.reduceEq, Int.reduceNe, Nat.reduceAdd, UInt8.reduceOfNat, UInt16.reduceOfNat, UInt32.reduceOfNat, UInt64.reduceOfNat, UInt64.reduceToNat, UInt32.reduceToNat, UInt16.reduceToNat, UInt8.reduceToNat, Int.reduceAdd, Int.reduceSub, Int.reduceMul, Nat.reduceMul, Qp0, Qp1, Ql0, Qe0]
  refine fun pb hpb => ?_
  have hle := (PH.Le.refl h).new pb ⟨[.int .i64 c.r, .int .i64 c.n, .int .i64 c.t, .int .i64 c.q, .slice A c.d.length cap, str c.s, str c.k, str c.v, .bool c.g, .int .i64 c.l], 10⟩ hpb
  have hp : (h.new pb ⟨[.int .i64 c.r, .int .i64 c.n, .int .i64 c.t, .int .i64 c.q, .slice A c.d.length cap, str c.s, str c.k, str c.v, .bool c.g, .int .i64 c.l], 10⟩).m pb = some ⟨[.int .i64 c.r, .int .i64 c.n, .int .i64 c.t, .int .i64 c.q, .slice A c.d.length cap, str c.s, str c.k, str c.v, .bool c.g, .int .i64 c.l], 10⟩ := by rw [PH.new_m, if_pos rfl]
  have hr1 := hr.more hle
  simp -dsimp -implicitDefEqProofs (disch := first | omega | assumption | (simp only [Option.isSome_some, Qt0]; done) | (simp only [UInt64.reduceToNat, UInt32.reduceToNat, UInt8.reduceToNat, List.length_cons, List.length_nil, List.length_append, Int.toNat_natCast] <;> omega) | fail) only [Nat.reduceLT, Nat.reduceLeDiff, Nat.reduceEqDiff, ↓reduceIte, Int.reduceLT, Int.reduceLE, Int.reduceToNat, Int.reduceEq, Int.reduceNe, Nat.reduceAdd, UInt8.reduceOfNat, UInt16.reduceOfNat, UInt32.reduceOfNat, UInt64.reduceOfNat, UInt64.reduceToNat, UInt32.reduceToNat, UInt16.reduceToNat, UInt8.reduceToNat, Int.reduceAdd, Int.reduceSub, Int.reduceMul, Nat.reduceMul, Qp0, Qp1, Ql0, Qe0]
  generalize h.new pb ⟨[.int .i64 c.r, .int .i64 c.n, .int .i64 c.t, .int .i64 c.q, .slice A c.d.length cap, str c.s, str c.k, str c.v, .bool c.g, .int .i64 c.l], 10⟩ = h1 at *
  have hs0 : rdN w0 h1 ⟨pb, 0, none⟩ 10 = some [.int .i64 c.r, .int .i64 c.n, .int .i64 c.t, .int .i64 c.q, .slice A c.d.length cap, str c.s, str c.k, str c.v, .bool c.g, .int .i64 c.l] := by unfold rdN; simp only [hp]; rfl
  have hR := rightW_any w0 h1 c A cap hr1 hc hx
  unfold wtL at hR
  cases hb : rightW c with
  | false =>
    rw [hb] at hR
    have hR := Lib.hid hR
    simp -dsimp -implicitDefEqProofs (disch := first | omega | assumption | (simp only [Option.isSome_some, Qt0]; done) | (simp only [UInt64.reduceToNat, UInt32.reduceToNat, UInt8.reduceToNat, List.length_cons, List.length_nil, List.length_append, Int.toNat_natCast] <;> omega) | fail) only [Nat.reduceLT, Nat.reduceLeDiff, Nat.reduceEqDiff, ↓reduceIte, Int.reduceLT, Int.reduceLE, Int.reduceToNat, Int.reduceEq, Int.reduceNe, Nat.reduceAdd, UInt8.reduceOfNat, UInt16.reduceOfNat, UInt32.reduceOfNat, UInt64.reduceOfNat, UInt64.reduceToNat, UInt32.reduceToNat, UInt16.reduceToNat, UInt8.reduceToNat, Int.reduceAdd, Int.reduceSub, Int.reduceMul, Nat.reduceMul, Qp0, Qp1, Ql0, Qe0, hs0]
    refine hR.out.mono ?_
    rintro v hq ⟨rfl, hz⟩
    obtain rfl := hz.symm
    simp -dsimp -implicitDefEqProofs (disch := first | omega | assumption | (simp only [Option.isSome_some, Qt0]; done) | (simp only [UInt64.reduceToNat, UInt32.reduceToNat, UInt8.reduceToNat, List.length_cons, List.length_nil, List.length_append, Int.toNat_natCast] <;> omega) | fail) only [Nat.reduceLT, Nat.reduceLeDiff, Nat.reduceEqDiff, ↓reduceIte, Int.reduceLT, Int.reduceLE, Int.reduceToNat, Int.reduceEq, Int.reduceNe, Nat.reduceAdd, UInt8.reduceOfNat, UInt16.reduceOfNat, UInt32.reduceOfNat, UInt64.reduceOfNat, UInt64.reduceToNat, UInt32.reduceToNat, UInt16.reduceToNat, UInt8.reduceToNat, Int.reduceAdd, Int.reduceSub, Int.reduceMul, Nat.reduceMul, Qp0, Qp1, Ql0, Qe0]
    refine (at_any wireT _ _ _ w0 _).mono ?_
    rintro v hq ⟨be, rfl, hbe, rfl⟩
    unfold errV
    simp -dsimp -implicitDefEqProofs (disch := first | omega | assumption | (simp only [Option.isSome_some, Qt0]; done) | (simp only [UInt64.reduceToNat, UInt32.reduceToNat, UInt8.reduceToNat, List.length_cons, List.length_nil, List.length_append, Int.toNat_natCast] <;> omega) | fail) only [Nat.reduceLT, Nat.reduceLeDiff, Nat.reduceEqDiff, ↓reduceIte, Int.reduceLT, Int.reduceLE, Int.reduceToNat, Int.reduceEq, Int.reduceNe, Nat.reduceAdd, UInt8.reduceOfNat, UInt16.reduceOfNat, UInt32.reduceOfNat, UInt64.reduceOfNat, UInt64.reduceToNat, UInt32.reduceToNat, UInt16.reduceToNat, UInt8.reduceToNat, Int.reduceAdd, Int.reduceSub, Int.reduceMul, Nat.reduceMul, Qp0, Qp1, Ql0, Qe0]
    refine ⟨_, PH.Le.refl _, ?_, hle.trans ((PH.Le.refl _).new _ _ hbe)⟩
    unfold ENC
    rw [if_neg (by simp)]
    exact ⟨_, rfl, be, _, rfl, by rw [PH.new_m, if_pos rfl]; rfl, rfl⟩
  | true =>
    rw [hb] at hR
    have hR := Lib.hid hR
    have hch := encW_chain hb
    have hri := rightW_iff.1 hb
    simp -dsimp -implicitDefEqProofs (disch := first | omega | assumption | (simp only [Option.isSome_some, Qt0]; done) | (simp only [UInt64.reduceToNat, UInt32.reduceToNat, UInt8.reduceToNat, List.length_cons, List.length_nil, List.length_append, Int.toNat_natCast] <;> omega) | fail) only [Nat.reduceLT, Nat.reduceLeDiff, Nat.reduceEqDiff, ↓reduceIte, Int.reduceLT, Int.reduceLE, Int.reduceToNat, Int.reduceEq, Int.reduceNe, Nat.reduceAdd, UInt8.reduceOfNat, UInt16.reduceOfNat, UInt32.reduceOfNat, UInt64.reduceOfNat, UInt64.reduceToNat, UInt32.reduceToNat, UInt16.reduceToNat, UInt8.reduceToNat, Int.reduceAdd, Int.reduceSub, Int.reduceMul, Nat.reduceMul, Qp0, Qp1, Ql0, Qe0, hs0]
    refine hR.out.mono ?_
    rintro v hq ⟨rfl, hz⟩
    obtain rfl := hz.symm
    simp -dsimp -implicitDefEqProofs (disch := first | omega | assumption | (simp only [Option.isSome_some, Qt0]; done) | (simp only [UInt64.reduceToNat, UInt32.reduceToNat, UInt8.reduceToNat, List.length_cons, List.length_nil, List.length_append, Int.toNat_natCast] <;> omega) | fail) only [Nat.reduceLT, Nat.reduceLeDiff, Nat.reduceEqDiff, ↓reduceIte, Int.reduceLT, Int.reduceLE, Int.reduceToNat, Int.reduceEq, Int.reduceNe, Nat.reduceAdd, UInt8.reduceOfNat, UInt16.reduceOfNat, UInt32.reduceOfNat, UInt64.reduceOfNat, UInt64.reduceToNat, UInt32.reduceToNat, UInt16.reduceToNat, UInt8.reduceToNat, Int.reduceAdd, Int.reduceSub, Int.reduceMul, Nat.reduceMul, Qp0, Qp1, Ql0, Qe0]
    refine fun ob hob => ?_
    have hs := OS.init hob
    have hp1 := hs.le.m _ _ hp
    simp -dsimp -implicitDefEqProofs (disch := first | omega | assumption | (simp only [Option.isSome_some, Qt0]; done) | (simp only [UInt64.reduceToNat, UInt32.reduceToNat, UInt8.reduceToNat, List.length_cons, List.length_nil, List.length_append, Int.toNat_natCast] <;> omega) | fail) only [Nat.reduceLT, Nat.reduceLeDiff, Nat.reduceEqDiff, ↓reduceIte, Int.reduceLT, Int.reduceLE, Int.reduceToNat, Int.reduceEq, Int.reduceNe, Nat.reduceAdd, UInt8.reduceOfNat, UInt16.reduceOfNat, UInt32.reduceOfNat, UInt64.reduceOfNat, UInt64.reduceToNat, UInt32.reduceToNat, UInt16.reduceToNat, UInt8.reduceToNat, Int.reduceAdd, Int.reduceSub, Int.reduceMul, Nat.reduceMul, Qp0, Qp1, Ql0, Qe0]
    generalize h1.new ob ⟨[.slice none 0 0, .nilIface], 2⟩ = h2 at *
    simp -dsimp -implicitDefEqProofs (disch := first | omega | assumption | (simp only [Option.isSome_some, Qt0]; done) | (simp only [UInt64.reduceToNat, UInt32.reduceToNat, UInt8.reduceToNat, List.length_cons, List.length_nil, List.length_append, Int.toNat_natCast] <;> omega) | fail) only [Nat.reduceLT, Nat.reduceLeDiff, Nat.reduceEqDiff, ↓reduceIte, Int.reduceLT, Int.reduceLE, Int.reduceToNat, Int.reduceEq, Int.reduceNe, Nat.reduceAdd, UInt8.reduceOfNat, UInt16.reduceOfNat, UInt32.reduceOfNat, UInt64.reduceOfNat, UInt64.reduceToNat, UInt32.reduceToNat, UInt16.reduceToNat, UInt8.reduceToNat, Int.reduceAdd, Int.reduceSub, Int.reduceMul, Nat.reduceMul, Qp0, Qp1, Ql0, Qe0, rd_M, rdM_some, hp1]
    refine (num_any h1 ob _ w0 _ hs c.r (by omega)).mono ?_
    intro v q hs
    have hp1 := hs.le.m _ _ hp
    simp -dsimp -implicitDefEqProofs (disch := first | omega | assumption | (simp only [Option.isSome_some, Qt0]; done) | (simp only [UInt64.reduceToNat, UInt32.reduceToNat, UInt8.reduceToNat, List.length_cons, List.length_nil, List.length_append, Int.toNat_natCast] <;> omega) | fail) only [Nat.reduceLT, Nat.reduceLeDiff, Nat.reduceEqDiff, ↓reduceIte, Int.reduceLT, Int.reduceLE, Int.reduceToNat, Int.reduceEq, Int.reduceNe, Nat.reduceAdd, UInt8.reduceOfNat, UInt16.reduceOfNat, UInt32.reduceOfNat, UInt64.reduceOfNat, UInt64.reduceToNat, UInt32.reduceToNat, UInt16.reduceToNat, UInt8.reduceToNat, Int.reduceAdd, Int.reduceSub, Int.reduceMul, Nat.reduceMul, Qp0, Qp1, Ql0, Qe0, rd_M, rdM_some, hp1]
    refine (num_any h1 ob _ w0 _ hs c.n (by omega)).mono ?_
    intro v q hs
    have hp1 := hs.le.m _ _ hp
    simp -dsimp -implicitDefEqProofs (disch := first | omega | assumption | (simp only [Option.isSome_some, Qt0]; done) | (simp only [UInt64.reduceToNat, UInt32.reduceToNat, UInt8.reduceToNat, List.length_cons, List.length_nil, List.length_append, Int.toNat_natCast] <;> omega) | fail) only [Nat.reduceLT, Nat.reduceLeDiff, Nat.reduceEqDiff, ↓reduceIte, Int.reduceLT, Int.reduceLE, Int.reduceToNat, Int.reduceEq, Int.reduceNe, Nat.reduceAdd, UInt8.reduceOfNat, UInt16.reduceOfNat, UInt32.reduceOfNat, UInt64.reduceOfNat, UInt64.reduceToNat, UInt32.reduceToNat, UInt16.reduceToNat, UInt8.reduceToNat, Int.reduceAdd, Int.reduceSub, Int.reduceMul, Nat.reduceMul, Qp0, Qp1, Ql0, Qe0, rd_M, rdM_some, hp1]
    refine (num_any h1 ob _ w0 _ hs c.t (by omega)).mono ?_
    intro v q hs
    have hp1 := hs.le.m _ _ hp
    simp -dsimp -implicitDefEqProofs (disch := first | omega | assumption | (simp only [Option.isSome_some, Qt0]; done) | (simp only [UInt64.reduceToNat, UInt32.reduceToNat, UInt8.reduceToNat, List.length_cons, List.length_nil, List.length_append, Int.toNat_natCast] <;> omega) | fail) only [Nat.reduceLT, Nat.reduceLeDiff, Nat.reduceEqDiff, ↓reduceIte, Int.reduceLT, Int.reduceLE, Int.reduceToNat, Int.reduceEq, Int.reduceNe, Nat.reduceAdd, UInt8.reduceOfNat, UInt16.reduceOfNat, UInt32.reduceOfNat, UInt64.reduceOfNat, UInt64.reduceToNat, UInt32.reduceToNat, UInt16.reduceToNat, UInt8.reduceToNat, Int.reduceAdd, Int.reduceSub, Int.reduceMul, Nat.reduceMul, Qp0, Qp1, Ql0, Qe0, rd_M, rdM_some, hp1]
    refine (wvec_any h1 ob _ w0 _ hs A cap c.d (hr1.more hs.le) hc hx).mono ?_
    intro v q hs
    have hp1 := hs.le.m _ _ hp
    simp -dsimp -implicitDefEqProofs (disch := first | omega | assumption | (simp only [Option.isSome_some, Qt0]; done) | (simp only [UInt64.reduceToNat, UInt32.reduceToNat, UInt8.reduceToNat, List.length_cons, List.length_nil, List.length_append, Int.toNat_natCast] <;> omega) | fail) only [Nat.reduceLT, Nat.reduceLeDiff, Nat.reduceEqDiff, ↓reduceIte, Int.reduceLT, Int.reduceLE, Int.reduceToNat, Int.reduceEq, Int.reduceNe, Nat.reduceAdd, UInt8.reduceOfNat, UInt16.reduceOfNat, UInt32.reduceOfNat, UInt64.reduceOfNat, UInt64.reduceToNat, UInt32.reduceToNat, UInt16.reduceToNat, UInt8.reduceToNat, Int.reduceAdd, Int.reduceSub, Int.reduceMul, Nat.reduceMul, Qp0, Qp1, Ql0, Qe0, rd_M, rdM_some, hp1]
    refine (wtext_any h1 ob _ w0 _ hs c.s (by omega)).mono ?_
    intro v q hs
    have hp1 := hs.le.m _ _ hp
    simp -dsimp -implicitDefEqProofs (disch := first | omega | assumption | (simp only [Option.isSome_some, Qt0]; done) | (simp only [UInt64.reduceToNat, UInt32.reduceToNat, UInt8.reduceToNat, List.length_cons, List.length_nil, List.length_append, Int.toNat_natCast] <;> omega) | fail) only [Nat.reduceLT, Nat.reduceLeDiff, Nat.reduceEqDiff, ↓reduceIte, Int.reduceLT, Int.reduceLE, Int.reduceToNat, Int.reduceEq, Int.reduceNe, Nat.reduceAdd, UInt8.reduceOfNat, UInt16.reduceOfNat, UInt32.reduceOfNat, UInt64.reduceOfNat, UInt64.reduceToNat, UInt32.reduceToNat, UInt16.reduceToNat, UInt8.reduceToNat, Int.reduceAdd, Int.reduceSub, Int.reduceMul, Nat.reduceMul, Qp0, Qp1, Ql0, Qe0, rd_M, rdM_some, hp1]
    refine (wtext_any h1 ob _ w0 _ hs c.k (by omega)).mono ?_
    intro v q hs
    have hp1 := hs.le.m _ _ hp
    simp -dsimp -implicitDefEqProofs (disch := first | omega | assumption | (simp only [Option.isSome_some, Qt0]; done) | (simp only [UInt64.reduceToNat, UInt32.reduceToNat, UInt8.reduceToNat, List.length_cons, List.length_nil, List.length_append, Int.toNat_natCast] <;> omega) | fail) only [Nat.reduceLT, Nat.reduceLeDiff, Nat.reduceEqDiff, ↓reduceIte, Int.reduceLT, Int.reduceLE, Int.reduceToNat, Int.reduceEq, Int.reduceNe, Nat.reduceAdd, UInt8.reduceOfNat, UInt16.reduceOfNat, UInt32.reduceOfNat, UInt64.reduceOfNat, UInt64.reduceToNat, UInt32.reduceToNat, UInt16.reduceToNat, UInt8.reduceToNat, Int.reduceAdd, Int.reduceSub, Int.reduceMul, Nat.reduceMul, Qp0, Qp1, Ql0, Qe0, rd_M, rdM_some, hp1]
    refine (wflag_any h1 ob _ w0 _ hs c.g).mono ?_
    intro v q hs
    have hp1 := hs.le.m _ _ hp
    simp -dsimp -implicitDefEqProofs (disch := first | omega | assumption | (simp only [Option.isSome_some, Qt0]; done) | (simp only [UInt64.reduceToNat, UInt32.reduceToNat, UInt8.reduceToNat, List.length_cons, List.length_nil, List.length_append, Int.toNat_natCast] <;> omega) | fail) only [Nat.reduceLT, Nat.reduceLeDiff, Nat.reduceEqDiff, ↓reduceIte, Int.reduceLT, Int.reduceLE, Int.reduceToNat, Int.reduceEq, Int.reduceNe, Nat.reduceAdd, UInt8.reduceOfNat, UInt16.reduceOfNat, UInt32.reduceOfNat, UInt64.reduceOfNat, UInt64.reduceToNat, UInt32.reduceToNat, UInt16.reduceToNat, UInt8.reduceToNat, Int.reduceAdd, Int.reduceSub, Int.reduceMul, Nat.reduceMul, Qp0, Qp1, Ql0, Qe0, rd_M, rdM_some, hp1]
    refine (wtext_any h1 ob _ w0 _ hs c.v (by omega)).mono ?_
    intro v q hs
    have hp1 := hs.le.m _ _ hp
    simp -dsimp -implicitDefEqProofs (disch := first | omega | assumption | (simp only [Option.isSome_some, Qt0]; done) | (simp only [UInt64.reduceToNat, UInt32.reduceToNat, UInt8.reduceToNat, List.length_cons, List.length_nil, List.length_append, Int.toNat_natCast] <;> omega) | fail) only [Nat.reduceLT, Nat.reduceLeDiff, Nat.reduceEqDiff, ↓reduceIte, Int.reduceLT, Int.reduceLE, Int.reduceToNat, Int.reduceEq, Int.reduceNe, Nat.reduceAdd, UInt8.reduceOfNat, UInt16.reduceOfNat, UInt32.reduceOfNat, UInt64.reduceOfNat, UInt64.reduceToNat, UInt32.reduceToNat, UInt16.reduceToNat, UInt8.reduceToNat, Int.reduceAdd, Int.reduceSub, Int.reduceMul, Nat.reduceMul, Qp0, Qp1, Ql0, Qe0, rd_M, rdM_some, hp1]
    refine (num_any h1 ob _ w0 _ hs c.l (by omega)).mono ?_
    intro v q hs
    have hp1 := hs.le.m _ _ hp
    simp -dsimp -implicitDefEqProofs (disch := first | omega | assumption | (simp only [Option.isSome_some, Qt0]; done) | (simp only [UInt64.reduceToNat, UInt32.reduceToNat, UInt8.reduceToNat, List.length_cons, List.length_nil, List.length_append, Int.toNat_natCast] <;> omega) | fail) only [Nat.reduceLT, Nat.reduceLeDiff, Nat.reduceEqDiff, ↓reduceIte, Int.reduceLT, Int.reduceLE, Int.reduceToNat, Int.reduceEq, Int.reduceNe, Nat.reduceAdd, UInt8.reduceOfNat, UInt16.reduceOfNat, UInt32.reduceOfNat, UInt64.reduceOfNat, UInt64.reduceToNat, UInt32.reduceToNat, UInt16.reduceToNat, UInt8.reduceToNat, Int.reduceAdd, Int.reduceSub, Int.reduceMul, Nat.reduceMul, Qp0, Qp1, Ql0, Qe0, rd_M, rdM_some, hp1]
    refine (done_any h1 ob _ w0 _ hs).mono ?_
    rintro v q2 ⟨hd, hz⟩
    obtain rfl := hz.symm
    rw [hch] at hd
    obtain rfl : v = .tuple #[str (bytesW c), .nilIface] := hd
    simp -dsimp -implicitDefEqProofs (disch := first | omega | assumption | (simp only [Option.isSome_some, Qt0]; done) | (simp only [UInt64.reduceToNat, UInt32.reduceToNat, UInt8.reduceToNat, List.length_cons, List.length_nil, List.length_append, Int.toNat_natCast] <;> omega) | fail) only [Nat.reduceLT, Nat.reduceLeDiff, Nat.reduceEqDiff, ↓reduceIte, Int.reduceLT, Int.reduceLE, Int.reduceToNat, Int.reduceEq, Int.reduceNe, Nat.reduceAdd, UInt8.reduceOfNat, UInt16.reduceOfNat, UInt32.reduceOfNat, UInt64.reduceOfNat, UInt64.reduceToNat, UInt32.reduceToNat, UInt16.reduceToNat, UInt8.reduceToNat, Int.reduceAdd, Int.reduceSub, Int.reduceMul, Nat.reduceMul, Qp0, Qp1, Ql0, Qe0]
    exact ⟨_, PH.Le.refl _, rfl, hle.trans hs.le⟩
end Go.Proofs.Ytdhgmifgjaedbaa


/- The document's bytes: Number, Bytes, Written. No condition. -/
namespace Go.Proofs.Ytdhgmifgjaedbaa
set_option linter.unusedVariables false
set_option linter.unusedSimpArgs false
open Go.RowKit Px Wr
/-- An item: its kind; a number, a text, a flag, a vector. -/
structure It where
  K : Int
  N : Int
  S : List UInt8
  B : Bool
  V : List Int
def itL (x : It) (A : Option Addr) (cap : Nat) : List Value := [.int .i64 x.K, .int .i64 x.N, str x.S, .bool x.B, .slice A x.V.length cap]
end Go.Proofs.Ytdhgmifgjaedbaa


/- The document's bytes: Bytes, Written. No condition. -/
namespace Go.Proofs.Ytdhgmifgjaedbaa
set_option linter.unusedVariables false
set_option linter.unusedSimpArgs false
open Go.RowKit Px Wr
/-- A row of items. -/
def Items (w0 : World) (h : PH) (A : Option Addr) (L : List It) : Prop :=
  ∀ (i : Nat) (x : It), L[i]? = some x → x.N ≤ 9223372036854775807 ∧ x.S.length ≤ 900000 ∧ x.V.length ≤ 900000 ∧ ∃ b o Ai cap, A = some ⟨b, o, none⟩ ∧ x.V.length ≤ cap ∧ Rv w0 h Ai (ints x.V) ∧ ∀ h', PH.Le h h' → Low w0 h' → rdN w0 h' ⟨b, o + i * 5, none⟩ 5 = some (itL x Ai cap)
end Go.Proofs.Ytdhgmifgjaedbaa


/- Rows of items. No condition. -/
namespace Go.Proofs.Ytdhgmifgjaedbaa
set_option linter.unusedVariables false
set_option linter.unusedSimpArgs false
open Go.RowKit Px Wr
theorem flat_chunk {α : Type} (g : α → List Value) (m : Nat) (hg : ∀ a, (g a).length = m) : ∀ (L : List α) (i : Nat) (a : α), L[i]? = some a → ((L.flatMap g).drop (i * m)).take m = g a ∧ i * m + m ≤ (L.flatMap g).length
  | [], i, a, h => by simp at h
  | x :: L, 0, a, h => by
    simp at h
    subst h
    have := hg x
    simp only [List.flatMap_cons, Nat.zero_mul, List.drop_zero, List.length_append]
    exact ⟨by rw [← this, List.take_left], by omega⟩
  | x :: L, i + 1, a, h => by
    obtain ⟨h1, h2⟩ := flat_chunk g m hg L i a (by simpa using h)
    have := hg x
    simp only [List.flatMap_cons, List.length_append]
    refine ⟨?_, by rw [Nat.add_mul]; omega⟩
    rw [← h1, show (i + 1) * m = (g x).length + i * m by rw [this, Nat.add_mul]; omega, ← List.drop_drop, List.drop_left]
theorem itL_length (p : It × Option Addr × Nat) : (itL p.1 p.2.1 p.2.2).length = 5 := rfl
theorem Items.lit {w0 : World} {h : PH} {lb lim : Nat} (Ls : List (It × Option Addr × Nat)) (hm : h.m lb = some ⟨Ls.flatMap fun p => itL p.1 p.2.1 p.2.2, lim⟩)
    (hb : ∀ p ∈ Ls, p.1.N ≤ 9223372036854775807 ∧ p.1.S.length ≤ 900000 ∧ p.1.V.length ≤ 900000 ∧ p.1.V.length ≤ p.2.2 ∧ Rv w0 h p.2.1 (ints p.1.V)) : Items w0 h (some ⟨lb, 0, none⟩) (Ls.map (·.1)) := fun i x hx => by
  rw [List.getElem?_map] at hx
  obtain ⟨p, hp, rfl⟩ := Option.map_eq_some_iff.1 hx
  obtain ⟨h1, h2, h3, h4, h5⟩ := hb p (List.mem_of_getElem? hp)
  refine ⟨h1, h2, h3, lb, 0, p.2.1, p.2.2, rfl, h4, h5, fun h' hl _ => ?_⟩
  obtain ⟨g1, g2⟩ := flat_chunk (fun p : It × Option Addr × Nat => itL p.1 p.2.1 p.2.2) 5 itL_length Ls i p hp
  unfold rdN
  simp only [hl.m _ _ hm]
  rw [if_pos ⟨trivial, by simpa using g2⟩, Nat.zero_add, g1]
end Go.Proofs.Ytdhgmifgjaedbaa


/- What is read as claims: the plain law. No condition. -/
namespace Go.Proofs.Ytdhgmifgjaedbaa
set_option linter.unusedVariables false
set_option linter.unusedSimpArgs false
open Go.RowKit Px Wr
theorem step_back {α : Type} {p : List UInt8 → Option (α × List UInt8)} {z a : α} {n : Nat} {st : St} {u : List UInt8} (h : st.step p z n = (a, .ok u)) : ∃ t, st = .ok t ∧ p t = some (a, u) := by
  cases st with
  | bad q => simp [St.step] at h
  | ok t =>
    refine ⟨t, rfl, ?_⟩
    unfold St.step at h
    cases hp : p t with
    | none => simp [hp] at h
    | some q =>
      obtain ⟨b, v⟩ := q
      simp [hp] at h
      rw [h.1, h.2]
theorem numS_back {m : Int} {n x : Nat} {st : St} {u : List UInt8} (h : numS m n st = (x, .ok u)) : st = .ok (numB x ++ u) ∧ x ≤ 4611686018427387903 := by
  obtain ⟨t, h1, h2⟩ := step_back h
  obtain ⟨h3, _, h4⟩ := numP_inv h2
  exact ⟨by rw [h1, h3], h4⟩
theorem txtS_back {m : Int} {n : Nat} {y : List UInt8} {st : St} {u : List UInt8} (h : txtS m n st = (y, .ok u)) : st = .ok (textB y ++ u) := by
  obtain ⟨t, h1, h2⟩ := step_back h
  rw [h1, (txtP_inv h2).1]; rfl
theorem flagS_back {n : Nat} {b : Bool} {st : St} {u : List UInt8} (h : flagS n st = (b, .ok u)) : st = .ok (flagB b ++ u) := by
  obtain ⟨t, h1, h2⟩ := step_back h
  rw [h1, flagP_inv h2]
theorem vecS_back {n : Nat} {v : List Int} {st : St} {u : List UInt8} (h : vecS n st = (v, .ok u)) : st = .ok (vecB v ++ u) ∧ trim v 1099511627776 = true := by
  obtain ⟨t, h1, h2⟩ := step_back h
  obtain ⟨h3, h4⟩ := vecP_inv h2
  exact ⟨by rw [h1, h3], h4⟩
theorem numS_fwd {m : Int} {n : Nat} {x : Int} {u : List UInt8} (h0 : 0 ≤ x) (h1 : x ≤ m) (h2 : x ≤ 1099511627776) : numS m n (.ok (numB x.toNat ++ u)) = (x.toNat, .ok u) :=
  numS_ok n (numP_put u (by omega) (by unfold top62; omega))
theorem txtS_fwd {m : Int} {n : Nat} {y u : List UInt8} (h1 : (y.length : Int) ≤ m) (h2 : y.length ≤ 1000) : txtS m n (.ok (textB y ++ u)) = (y, .ok u) := by
  have := txtP_put u h1 (by unfold top62; omega)
  unfold txtS St.step textB
  simp only [this]
theorem flagS_fwd {n : Nat} {b : Bool} {u : List UInt8} : flagS n (.ok (flagB b ++ u)) = (b, .ok u) := by
  unfold flagS St.step; simp only [flagP_put]
theorem vecS_fwd {n : Nat} {v : List Int} {u : List UInt8} (h : trim v 1099511627776 = true) : vecS n (.ok (vecB v ++ u)) = (v, .ok u) := by
  have := vecP_put u h
  unfold vecS St.step; simp only [this]
/-- The claims whose bytes these are. -/
def IsC (s : List UInt8) (c : Cl) : Prop := rightC c = true ∧ s = bytesC c
def IsW (s : List UInt8) (c : Wt) : Prop := rightW c = true ∧ s = bytesW c
structure ChC (m1 m2 m3 : Int) (n : Nat) (s : List UInt8) (x1 x2 : List UInt8) (x3 x4 x5 : Nat) (x6 : List Int) (s1 s2 s3 s4 s5 s6 : St) : Prop where
  e1 : (x1, s1) = txtS m1 n (.ok s)
  e2 : (x2, s2) = txtS m2 n s1
  e3 : (x3, s3) = numS m3 n s2
  e4 : (x4, s4) = numS m3 n s3
  e5 : (x5, s5) = numS m3 n s4
  e6 : (x6, s6) = vecS n s5
theorem ChC.back {m1 m2 m3 : Int} {n : Nat} {s x1 x2 : List UInt8} {x3 x4 x5 : Nat} {x6 : List Int} {s1 s2 s3 s4 s5 s6 : St} (c : ChC m1 m2 m3 n s x1 x2 x3 x4 x5 x6 s1 s2 s3 s4 s5 s6) (h : s6 = .ok []) : s = bytesC ⟨x1, x2, x3, x4, x5, x6⟩ := by
  subst h
  obtain ⟨rfl, h6⟩ := vecS_back c.e6.symm
  obtain ⟨rfl, h5⟩ := numS_back c.e5.symm
  obtain ⟨rfl, h4⟩ := numS_back c.e4.symm
  obtain ⟨rfl, h3⟩ := numS_back c.e3.symm
  have := txtS_back c.e2.symm
  subst this
  have := txtS_back c.e1.symm
  injection this with this
  rw [this]
  unfold bytesC
  simp
theorem ChC.fwd {m1 m2 m3 : Int} {n : Nat} {s x1 x2 : List UInt8} {x3 x4 x5 : Nat} {x6 : List Int} {s1 s2 s3 s4 s5 s6 : St} (c : ChC m1 m2 m3 n s x1 x2 x3 x4 x5 x6 s1 s2 s3 s4 s5 s6) (h1 : 64 ≤ m1) (h2 : 32 ≤ m2) (h3 : 1099511627776 ≤ m3) {d : Cl} (hd : IsC s d) : d = ⟨x1, x2, x3, x4, x5, x6⟩ ∧ s6 = .ok [] := by
  obtain ⟨hr, rfl⟩ := hd
  obtain ⟨r1, r2, r3, r4, ⟨r5, r6⟩, ⟨r7, r8⟩, ⟨r9, r10⟩, r11⟩ := rightC_iff.1 hr
  have e1 := c.e1
  unfold bytesC at e1
  rw [txtS_fwd (by omega) (by omega)] at e1
  injection e1 with a1 b1
  have e2 := c.e2
  rw [b1, txtS_fwd (by omega) (by omega)] at e2
  injection e2 with a2 b2
  have e3 := c.e3
  rw [b2, numS_fwd r5 (by omega) (by omega)] at e3
  injection e3 with a3 b3
  have e4 := c.e4
  rw [b3, numS_fwd r7 (by omega) (by omega)] at e4
  injection e4 with a4 b4
  have e5 := c.e5
  rw [b4, numS_fwd r9 (by omega) (by omega)] at e5
  injection e5 with a5 b5
  have e6 := c.e6
  rw [b5, ← List.append_nil (vecB d.x), vecS_fwd r11] at e6
  injection e6 with a6 b6
  exact ⟨Cl.ext' a1.symm a2.symm (by rw [a3]; simp only; omega) (by rw [a4]; simp only; omega) (by rw [a5]; simp only; omega) a6.symm, b6⟩
structure ChW (m1 m2 m3 m4 m5 : Int) (n : Nat) (s : List UInt8) (x1 x2 x3 : Nat) (x4 : List Int) (x5 x6 : List UInt8) (x7 : Bool) (x8 : List UInt8) (x9 : Nat) (s1 s2 s3 s4 s5 s6 s7 s8 s9 : St) : Prop where
  e1 : (x1, s1) = numS m1 n (.ok s)
  e2 : (x2, s2) = numS m2 n s1
  e3 : (x3, s3) = numS m2 n s2
  e4 : (x4, s4) = vecS n s3
  e5 : (x5, s5) = txtS m3 n s4
  e6 : (x6, s6) = txtS m4 n s5
  e7 : (x7, s7) = flagS n s6
  e8 : (x8, s8) = txtS m5 n s7
  e9 : (x9, s9) = numS m2 n s8
section
variable {m1 m2 m3 m4 m5 : Int} {n : Nat} {s : List UInt8} {x1 x2 x3 : Nat} {x4 : List Int} {x5 x6 : List UInt8} {x7 : Bool} {x8 : List UInt8} {x9 : Nat} {s1 s2 s3 s4 s5 s6 s7 s8 s9 : St}
theorem ChW.back (c : ChW m1 m2 m3 m4 m5 n s x1 x2 x3 x4 x5 x6 x7 x8 x9 s1 s2 s3 s4 s5 s6 s7 s8 s9) (h : s9 = .ok []) : s = bytesW ⟨x1, x2, x3, x1, x4, x5, x6, x8, x7, x9⟩ := by
  subst h
  obtain ⟨rfl, _⟩ := numS_back c.e9.symm
  have := txtS_back c.e8.symm
  subst this
  have := flagS_back c.e7.symm
  subst this
  have := txtS_back c.e6.symm
  subst this
  have := txtS_back c.e5.symm
  subst this
  obtain ⟨rfl, _⟩ := vecS_back c.e4.symm
  obtain ⟨rfl, _⟩ := numS_back c.e3.symm
  obtain ⟨rfl, _⟩ := numS_back c.e2.symm
  obtain ⟨h1, _⟩ := numS_back c.e1.symm
  injection h1 with h1
  rw [h1]
  unfold bytesW
  simp
theorem ChW.fwd (c : ChW m1 m2 m3 m4 m5 n s x1 x2 x3 x4 x5 x6 x7 x8 x9 s1 s2 s3 s4 s5 s6 s7 s8 s9) (h1 : 16 ≤ m1) (h2 : 1099511627776 ≤ m2) (h3 : 64 ≤ m3) (h4 : 32 ≤ m4) (h5 : 128 ≤ m5) {d : Wt} (hd : IsW s d) : d = ⟨x1, x2, x3, x1, x4, x5, x6, x8, x7, x9⟩ ∧ s9 = .ok [] := by
  obtain ⟨hr, rfl⟩ := hd
  obtain ⟨r1, r2, ⟨r3, r4⟩, r5, ⟨r6, r7⟩, r8, r9, r10, r11, r12, _, ⟨r13, r14⟩⟩ := rightW_iff.1 hr
  have e1 := c.e1
  unfold bytesW at e1
  rw [numS_fwd (by omega) (by omega) (by omega)] at e1
  injection e1 with a1 b1
  have e2 := c.e2
  rw [b1, numS_fwd (by omega) (by omega) (by omega)] at e2
  injection e2 with a2 b2
  have e3 := c.e3
  rw [b2, numS_fwd (by omega) (by omega) (by omega)] at e3
  injection e3 with a3 b3
  have e4 := c.e4
  rw [b3, vecS_fwd r8] at e4
  injection e4 with a4 b4
  have e5 := c.e5
  rw [b4, txtS_fwd (by omega) (by omega)] at e5
  injection e5 with a5 b5
  have e6 := c.e6
  rw [b5, txtS_fwd (by omega) (by omega)] at e6
  injection e6 with a6 b6
  have e7 := c.e7
  rw [b6, flagS_fwd] at e7
  injection e7 with a7 b7
  have e8 := c.e8
  rw [b7, txtS_fwd (by omega) (by omega)] at e8
  injection e8 with a8 b8
  have e9 := c.e9
  rw [b8, ← List.append_nil (numB d.l.toNat), numS_fwd (by omega) (by omega) (by omega)] at e9
  injection e9 with a9 b9
  exact ⟨Wt.ext' (by rw [a1]; simp only; omega) (by rw [a2]; simp only; omega) (by rw [a3]; simp only; omega) (by rw [a1]; simp only; omega) a4.symm a5.symm a6.symm a8.symm a7.symm (by rw [a9]; simp only; omega), b9⟩
end
def wtZ : Wt := ⟨0, 0, 0, 0, [], [], [], [], false, 0⟩
end Go.Proofs.Ytdhgmifgjaedbaa


/- Walks: DecodeClaims. No condition. -/
namespace Go.Proofs.Ytdhgmifgjaedbaa
set_option linter.unusedVariables false
set_option linter.unusedSimpArgs false
open Go.RowKit Px Wr
theorem Px.OwnC.rv {F : Nat → Prop} {w0 : World} {h0 h : PH} {A : Option Addr} {n c : Nat} {xs : List Value} (o : OwnC F h0 h 1 (.slice A n c) n xs) : Rv w0 h A xs := Rv.own o.own
theorem EE_told {h : PH} {n : Nat} {st : St} {v : Value} (e : EE h n st v) : (st = .ok [] ∧ v = .nilIface) ∨ (st ≠ .ok [] ∧ ∃ be p, v = errV be ∧ h.m be = some ⟨[str wireT, .int .i64 p, codeV 2], 3⟩) := by
  cases st with
  | bad p => obtain ⟨be, h1, h2⟩ := e; exact .inr ⟨by simp, be, _, h1, h2⟩
  | ok t =>
    cases t with
    | nil => exact .inl ⟨rfl, e⟩
    | cons c t => obtain ⟨be, h1, h2⟩ := e; exact .inr ⟨by simp, be, _, h1, h2⟩
theorem vecS_len {n : Nat} {v : List Int} {st st' : St} (h : (v, st') = vecS n st) : v.length ≤ 16 := by
  cases st with
  | bad p => injection h with h _; rw [h]; simp
  | ok t =>
    cases hp : vecP t with
    | none => unfold vecS St.step at h; simp only [hp] at h; injection h with h _; rw [h]; simp
    | some q =>
      obtain ⟨a, u⟩ := q
      unfold vecS St.step at h; simp only [hp] at h; injection h with h _; rw [h]
      exact trim_len (vecP_inv hp).2
end Go.Proofs.Ytdhgmifgjaedbaa


/- The document's reader: Vec. No condition. -/
namespace Go.Proofs.Ytdhgmifgjaedbaa
set_option linter.unusedVariables false
set_option linter.unusedSimpArgs false
open Go.RowKit Px Wr
section
variable (w0 : World) (h : PH) (ib : Nat) (s : List UInt8)
set_option maxRecDepth 20000 in
set_option maxHeartbeats 2000000 in
theorem rvec_any (hs : s.length ≤ 1000000000) (st : St) (hi : RI h ib s st) : PCalls Try.prog w0 52 [.pointer (some ⟨ib, 0, none⟩)] h fun r h' => ∃ A c, r = .slice A (vecS s.length st).1.length c ∧ OwnC (· = ib) h h' 1 r (vecS s.length st).1.length (ints (vecS s.length st).1) ∧ RI h' ib s (vecS s.length st).2 := by
  refine PCalls_body Try.func52 (by kernel_rfl) rfl _ Try.ntmps52 (by kernel_rfl) (by kernel_rfl) _ Try.results52 ?_
  cases st with
  | bad p =>
    have hR : vecS s.length (.bad p) = ([], .bad p) := rfl
    rw [hR]
    obtain ⟨a, h1, h3⟩ := id hi
    have e0 : decide ((p : Int) ≥ 0) = true := decide_eq_true (by omega)
    simp -dsimp -implicitDefEqProofs (disch := first | omega | assumption | (simp only [Option.isSome_some, Qt0]; done) | (simp only [UInt64.reduceToNat, UInt32.reduceToNat, UInt8.reduceToNat, List.length_cons, List.length_nil, List.length_append, Int.toNat_natCast] <;> omega) | fail) only [Nat.reduceLT, Nat.reduceLeDiff, Nat.reduceEqDiff, ↓reduceIte, Int.reduceLT, Int.reduceLE, Int.reduceToNat, Int.reduceEq, Int.reduceNe, Nat.reduceAdd, UInt8.reduceOfNat, UInt16.reduceOfNat, UInt32.reduceOfNat, UInt64.reduceOfNat, UInt64.reduceToNat, UInt32.reduceToNat, UInt16.reduceToNat, UInt8.reduceToNat, Int.reduceAdd, Int.reduceSub, Int.reduceMul, Nat.reduceMul, Qp0, Qp1, Ql0, Qe0, rd_M, rdM_some, h3, e0]
    exact ⟨_, PH.Le.refl _, _, _, by first | rfl | trivial, OwnC.nil (Chg.refl _ _) 1, hi⟩
  | ok t =>
    have hN := rnum_any w0 h ib s hs 16 _ hi
    have hibt := rib_lt hi
    obtain ⟨a0, h1, rfl, h3⟩ := hi
    have hfl : s.length - (s.drop a0).length = a0 := by simp; omega
    generalize ht : s.drop a0 = t at *
    have hN := Lib.hid hN
    simp -dsimp -implicitDefEqProofs (disch := first | omega | assumption | (simp only [Option.isSome_some, Qt0]; done) | (simp only [UInt64.reduceToNat, UInt32.reduceToNat, UInt8.reduceToNat, List.length_cons, List.length_nil, List.length_append, Int.toNat_natCast] <;> omega) | fail) only [Nat.reduceLT, Nat.reduceLeDiff, Nat.reduceEqDiff, ↓reduceIte, Int.reduceLT, Int.reduceLE, Int.reduceToNat, Int.reduceEq, Int.reduceNe, Nat.reduceAdd, UInt8.reduceOfNat, UInt16.reduceOfNat, UInt32.reduceOfNat, UInt64.reduceOfNat, UInt64.reduceToNat, UInt32.reduceToNat, UInt16.reduceToNat, UInt8.reduceToNat, Int.reduceAdd, Int.reduceSub, Int.reduceMul, Nat.reduceMul, Qp0, Qp1, Ql0, Qe0, rd_M, rdM_some, h3]
    refine hN.out.mono ?_
    rintro v h2 ⟨rfl, hi2, hc2⟩
    have h0 : ∃ r st1, numS 16 s.length (.ok t) = (r, st1) ∧ r ≤ 16 ∧ VK s t a0 r [] st1 := by
      cases hp : numP t 16 with
      | none => exact ⟨0, _, numS_fail _ hp, by omega, by rw [hfl]; show vecS _ _ = _; rw [vecS_no _ hp, hfl]⟩
      | some p => obtain ⟨n, u⟩ := p; exact ⟨n, _, numS_ok _ hp, by have := (numP_inv hp).2.1; omega, n, u, hp, by simp⟩
    obtain ⟨r0, st1, e0, hr0, hK0⟩ := h0
    rw [e0] at hi2
    rw [e0]
    clear hN
    simp -dsimp -implicitDefEqProofs (disch := first | omega | assumption | (simp only [Option.isSome_some, Qt0]; done) | (simp only [UInt64.reduceToNat, UInt32.reduceToNat, UInt8.reduceToNat, List.length_cons, List.length_nil, List.length_append, Int.toNat_natCast] <;> omega) | fail) only [Nat.reduceLT, Nat.reduceLeDiff, Nat.reduceEqDiff, ↓reduceIte, Int.reduceLT, Int.reduceLE, Int.reduceToNat, Int.reduceEq, Int.reduceNe, Nat.reduceAdd, UInt8.reduceOfNat, UInt16.reduceOfNat, UInt32.reduceOfNat, UInt64.reduceOfNat, UInt64.reduceToNat, UInt32.reduceToNat, UInt16.reduceToNat, UInt8.reduceToNat, Int.reduceAdd, Int.reduceSub, Int.reduceMul, Nat.reduceMul, Qp0, Qp1, Ql0, Qe0]
    refine Does_zero el_ints fun b0 hb0 => ?_
    have hz := OwnC.zero hc2 1 hb0
    have hi2 := hi2.more ((PH.Le.refl h2).new b0 ⟨[], 0⟩ hb0)
    simp -dsimp -implicitDefEqProofs (disch := first | omega | assumption | (simp only [Option.isSome_some, Qt0]; done) | (simp only [UInt64.reduceToNat, UInt32.reduceToNat, UInt8.reduceToNat, List.length_cons, List.length_nil, List.length_append, Int.toNat_natCast] <;> omega) | fail) only [Nat.reduceLT, Nat.reduceLeDiff, Nat.reduceEqDiff, ↓reduceIte, Int.reduceLT, Int.reduceLE, Int.reduceToNat, Int.reduceEq, Int.reduceNe, Nat.reduceAdd, UInt8.reduceOfNat, UInt16.reduceOfNat, UInt32.reduceOfNat, UInt64.reduceOfNat, UInt64.reduceToNat, UInt32.reduceToNat, UInt16.reduceToNat, UInt8.reduceToNat, Int.reduceAdd, Int.reduceSub, Int.reduceMul, Nat.reduceMul, Qp0, Qp1, Ql0, Qe0]
    refine PW_loopL (fun m f h' => ∃ (v' : List Int) (u' : Value) (st' : St), m + v'.length = r0 ∧ f 0 = some (.pointer (some ⟨ib, 0, none⟩)) ∧ f 3 = some (.int .i64 a0) ∧ f 4 = some (.int .i64 r0) ∧ f 5 = some u' ∧ f 6 = some (.int .i64 v'.length) ∧ OwnC (· = ib) h h' 1 u' v'.length (ints v') ∧ RI h' ib s st' ∧ VK s t a0 m v' st') (by kernel_rfl) r0 ⟨[], _, st1, by simp, ?_, ?_, ?_, ?_, ?_, hz, hi2, hK0⟩ ?_
    · simp -dsimp -implicitDefEqProofs (disch := first | omega | assumption | (simp only [Option.isSome_some, Qt0]; done) | (simp only [UInt64.reduceToNat, UInt32.reduceToNat, UInt8.reduceToNat, List.length_cons, List.length_nil, List.length_append, Int.toNat_natCast] <;> omega) | fail) only [Nat.reduceLT, Nat.reduceLeDiff, Nat.reduceEqDiff, ↓reduceIte, Int.reduceLT, Int.reduceLE, Int.reduceToNat, Int.reduceEq, Int.reduceNe, Nat.reduceAdd, UInt8.reduceOfNat, UInt16.reduceOfNat, UInt32.reduceOfNat, UInt64.reduceOfNat, UInt64.reduceToNat, UInt32.reduceToNat, UInt16.reduceToNat, UInt8.reduceToNat, Int.reduceAdd, Int.reduceSub, Int.reduceMul, Nat.reduceMul, Qp0, Qp1, Ql0, Qe0]
    · simp -dsimp -implicitDefEqProofs (disch := first | omega | assumption | (simp only [Option.isSome_some, Qt0]; done) | (simp only [UInt64.reduceToNat, UInt32.reduceToNat, UInt8.reduceToNat, List.length_cons, List.length_nil, List.length_append, Int.toNat_natCast] <;> omega) | fail) only [Nat.reduceLT, Nat.reduceLeDiff, Nat.reduceEqDiff, ↓reduceIte, Int.reduceLT, Int.reduceLE, Int.reduceToNat, Int.reduceEq, Int.reduceNe, Nat.reduceAdd, UInt8.reduceOfNat, UInt16.reduceOfNat, UInt32.reduceOfNat, UInt64.reduceOfNat, UInt64.reduceToNat, UInt32.reduceToNat, UInt16.reduceToNat, UInt8.reduceToNat, Int.reduceAdd, Int.reduceSub, Int.reduceMul, Nat.reduceMul, Qp0, Qp1, Ql0, Qe0]
    · simp -dsimp -implicitDefEqProofs (disch := first | omega | assumption | (simp only [Option.isSome_some, Qt0]; done) | (simp only [UInt64.reduceToNat, UInt32.reduceToNat, UInt8.reduceToNat, List.length_cons, List.length_nil, List.length_append, Int.toNat_natCast] <;> omega) | fail) only [Nat.reduceLT, Nat.reduceLeDiff, Nat.reduceEqDiff, ↓reduceIte, Int.reduceLT, Int.reduceLE, Int.reduceToNat, Int.reduceEq, Int.reduceNe, Nat.reduceAdd, UInt8.reduceOfNat, UInt16.reduceOfNat, UInt32.reduceOfNat, UInt64.reduceOfNat, UInt64.reduceToNat, UInt32.reduceToNat, UInt16.reduceToNat, UInt8.reduceToNat, Int.reduceAdd, Int.reduceSub, Int.reduceMul, Nat.reduceMul, Qp0, Qp1, Ql0, Qe0]
    · simp -dsimp -implicitDefEqProofs (disch := first | omega | assumption | (simp only [Option.isSome_some, Qt0]; done) | (simp only [UInt64.reduceToNat, UInt32.reduceToNat, UInt8.reduceToNat, List.length_cons, List.length_nil, List.length_append, Int.toNat_natCast] <;> omega) | fail) only [Nat.reduceLT, Nat.reduceLeDiff, Nat.reduceEqDiff, ↓reduceIte, Int.reduceLT, Int.reduceLE, Int.reduceToNat, Int.reduceEq, Int.reduceNe, Nat.reduceAdd, UInt8.reduceOfNat, UInt16.reduceOfNat, UInt32.reduceOfNat, UInt64.reduceOfNat, UInt64.reduceToNat, UInt32.reduceToNat, UInt16.reduceToNat, UInt8.reduceToNat, Int.reduceAdd, Int.reduceSub, Int.reduceMul, Nat.reduceMul, Qp0, Qp1, Ql0, Qe0]
    · simp -dsimp -implicitDefEqProofs (disch := first | omega | assumption | (simp only [Option.isSome_some, Qt0]; done) | (simp only [UInt64.reduceToNat, UInt32.reduceToNat, UInt8.reduceToNat, List.length_cons, List.length_nil, List.length_append, Int.toNat_natCast] <;> omega) | fail) only [Nat.reduceLT, Nat.reduceLeDiff, Nat.reduceEqDiff, ↓reduceIte, Int.reduceLT, Int.reduceLE, Int.reduceToNat, Int.reduceEq, Int.reduceNe, Nat.reduceAdd, UInt8.reduceOfNat, UInt16.reduceOfNat, UInt32.reduceOfNat, UInt64.reduceOfNat, UInt64.reduceToNat, UInt32.reduceToNat, UInt16.reduceToNat, UInt8.reduceToNat, Int.reduceAdd, Int.reduceSub, Int.reduceMul, Nat.reduceMul, Qp0, Qp1, Ql0, Qe0]
      try rfl
    clear hi2 hc2 hK0 e0 hz
    rintro m f h' ⟨v', u', st', hmv, f0, f3, f4, f5, f6, how, hi2, hK⟩ hl
    obtain ⟨A, c, rfl, hc⟩ := how.own.len
    cases m with
    | zero =>
      have e1 : decide ((v'.length : Int) < (r0 : Int)) = false := decide_eq_false (by omega)
      cases st' with
      | bad p =>
        have hR : vecS s.length (.ok t) = ([], .bad a0) := hK
        obtain ⟨a1, g1, g3⟩ := hi2
        have e2 : decide ((p : Int) ≥ 0) = true := decide_eq_true (by omega)
        have hc3 := (how.chg.one ⟨[str s, .int .i64 a0, .int .i64 p], 3⟩).one ⟨[str s, .int .i64 a0, .int .i64 a0], 3⟩
        rw [hR]
        simp -dsimp -implicitDefEqProofs (disch := first | omega | assumption | (simp only [Option.isSome_some, Qt0]; done) | (simp only [UInt64.reduceToNat, UInt32.reduceToNat, UInt8.reduceToNat, List.length_cons, List.length_nil, List.length_append, Int.toNat_natCast] <;> omega) | fail) only [Nat.reduceLT, Nat.reduceLeDiff, Nat.reduceEqDiff, ↓reduceIte, Int.reduceLT, Int.reduceLE, Int.reduceToNat, Int.reduceEq, Int.reduceNe, Nat.reduceAdd, UInt8.reduceOfNat, UInt16.reduceOfNat, UInt32.reduceOfNat, UInt64.reduceOfNat, UInt64.reduceToNat, UInt32.reduceToNat, UInt16.reduceToNat, UInt8.reduceToNat, Int.reduceAdd, Int.reduceSub, Int.reduceMul, Nat.reduceMul, Qp0, Qp1, Ql0, Qe0, f0, f3, f4, f5, f6, e1, rd_M, rdM_some, g3, e2, List.set_cons_zero, List.set_cons_succ, ite_true]
        exact ⟨_, PH.Le.refl _, _, _, by first | rfl | trivial, OwnC.nil hc3 1, a0, h1, by rw [PH.new_m, if_pos rfl]⟩
      | ok u =>
        obtain ⟨n0, u0, hp0, hns⟩ := hK
        rw [numsP_zero] at hns
        simp only [Option.map_some, List.append_nil] at hns
        have hT := rtrimmed_any w0 h' hl A c v' 1099511627776 (Rv.own how.own) hc (by omega)
        obtain ⟨a1, g1, g2, g3⟩ := id hi2
        cases htr : trim v' 1099511627776 with
        | true =>
          have hR : vecS s.length (.ok t) = (v', .ok u) := vecS_ok _ hp0 hns htr
          rw [htr] at hT
          have hT := Lib.hid hT
          rw [hR]
          simp -dsimp -implicitDefEqProofs (disch := first | omega | assumption | (simp only [Option.isSome_some, Qt0]; done) | (simp only [UInt64.reduceToNat, UInt32.reduceToNat, UInt8.reduceToNat, List.length_cons, List.length_nil, List.length_append, Int.toNat_natCast] <;> omega) | fail) only [Nat.reduceLT, Nat.reduceLeDiff, Nat.reduceEqDiff, ↓reduceIte, Int.reduceLT, Int.reduceLE, Int.reduceToNat, Int.reduceEq, Int.reduceNe, Nat.reduceAdd, UInt8.reduceOfNat, UInt16.reduceOfNat, UInt32.reduceOfNat, UInt64.reduceOfNat, UInt64.reduceToNat, UInt32.reduceToNat, UInt16.reduceToNat, UInt8.reduceToNat, Int.reduceAdd, Int.reduceSub, Int.reduceMul, Nat.reduceMul, Qp0, Qp1, Ql0, Qe0, f0, f3, f4, f5, f6, e1, rd_M, rdM_some, g3]
          refine hT.out.mono ?_
          rintro v hq ⟨rfl, hz⟩
          obtain rfl := hz.symm
          simp -dsimp -implicitDefEqProofs (disch := first | omega | assumption | (simp only [Option.isSome_some, Qt0]; done) | (simp only [UInt64.reduceToNat, UInt32.reduceToNat, UInt8.reduceToNat, List.length_cons, List.length_nil, List.length_append, Int.toNat_natCast] <;> omega) | fail) only [Nat.reduceLT, Nat.reduceLeDiff, Nat.reduceEqDiff, ↓reduceIte, Int.reduceLT, Int.reduceLE, Int.reduceToNat, Int.reduceEq, Int.reduceNe, Nat.reduceAdd, UInt8.reduceOfNat, UInt16.reduceOfNat, UInt32.reduceOfNat, UInt64.reduceOfNat, UInt64.reduceToNat, UInt32.reduceToNat, UInt16.reduceToNat, UInt8.reduceToNat, Int.reduceAdd, Int.reduceSub, Int.reduceMul, Nat.reduceMul, Qp0, Qp1, Ql0, Qe0, f0, f3, f4, f5]
          exact ⟨_, PH.Le.refl _, A, c, by first | rfl | trivial, how, hi2⟩
        | false =>
          have hR : vecS s.length (.ok t) = ([], .bad a0) := by rw [vecS_no3 _ hp0 hns htr, hfl]
          rw [htr] at hT
          have hT := Lib.hid hT
          have hc3 := (how.chg.one ⟨[str s, .int .i64 a0, .int .i64 (-1)], 3⟩).one ⟨[str s, .int .i64 a0, .int .i64 a0], 3⟩
          rw [hR]
          simp -dsimp -implicitDefEqProofs (disch := first | omega | assumption | (simp only [Option.isSome_some, Qt0]; done) | (simp only [UInt64.reduceToNat, UInt32.reduceToNat, UInt8.reduceToNat, List.length_cons, List.length_nil, List.length_append, Int.toNat_natCast] <;> omega) | fail) only [Nat.reduceLT, Nat.reduceLeDiff, Nat.reduceEqDiff, ↓reduceIte, Int.reduceLT, Int.reduceLE, Int.reduceToNat, Int.reduceEq, Int.reduceNe, Nat.reduceAdd, UInt8.reduceOfNat, UInt16.reduceOfNat, UInt32.reduceOfNat, UInt64.reduceOfNat, UInt64.reduceToNat, UInt32.reduceToNat, UInt16.reduceToNat, UInt8.reduceToNat, Int.reduceAdd, Int.reduceSub, Int.reduceMul, Nat.reduceMul, Qp0, Qp1, Ql0, Qe0, f0, f3, f4, f5, f6, e1, rd_M, rdM_some, g3]
          refine hT.out.mono ?_
          rintro v hq ⟨rfl, hz⟩
          obtain rfl := hz.symm
          simp -dsimp -implicitDefEqProofs (disch := first | omega | assumption | (simp only [Option.isSome_some, Qt0]; done) | (simp only [UInt64.reduceToNat, UInt32.reduceToNat, UInt8.reduceToNat, List.length_cons, List.length_nil, List.length_append, Int.toNat_natCast] <;> omega) | fail) only [Nat.reduceLT, Nat.reduceLeDiff, Nat.reduceEqDiff, ↓reduceIte, Int.reduceLT, Int.reduceLE, Int.reduceToNat, Int.reduceEq, Int.reduceNe, Nat.reduceAdd, UInt8.reduceOfNat, UInt16.reduceOfNat, UInt32.reduceOfNat, UInt64.reduceOfNat, UInt64.reduceToNat, UInt32.reduceToNat, UInt16.reduceToNat, UInt8.reduceToNat, Int.reduceAdd, Int.reduceSub, Int.reduceMul, Nat.reduceMul, Qp0, Qp1, Ql0, Qe0, f0, f3, f4, f5, rd_M, rdM_some, g3, List.set_cons_zero, List.set_cons_succ, ite_true]
          exact ⟨_, PH.Le.refl _, _, _, by first | rfl | trivial, OwnC.nil hc3 1, a0, h1, by rw [PH.new_m, if_pos rfl]⟩
    | succ r =>
      have e1 : decide ((v'.length : Int) < (r0 : Int)) = true := decide_eq_true (by omega)
      have hN := rnum_any w0 h' ib s hs 1099511627776 _ hi2
      have hstep : ∃ (x : Nat) (st2 : St), numS 1099511627776 s.length st' = (x, st2) ∧ VK s t a0 r (v' ++ [(x : Int)]) st2 := by
        cases st' with
        | bad p => exact ⟨0, _, rfl, hK⟩
        | ok u =>
          obtain ⟨n0, u0, hp0, hns⟩ := hK
          cases hp : numP u 1099511627776 with
          | none =>
            refine ⟨0, _, numS_fail _ hp, ?_⟩
            show vecS _ _ = _
            rw [vecS_no2 _ hp0 (by rw [hns, numsP_none hp]; rfl), hfl]
          | some p =>
            obtain ⟨x, u2⟩ := p
            refine ⟨x, _, numS_ok _ hp, n0, u0, hp0, ?_⟩
            rw [hns, numsP_some hp, Option.map_map]
            congr 1
            funext q
            simp
      obtain ⟨x, st2, e2, hK2⟩ := hstep
      rw [e2] at hN
      have hN := Lib.hid hN
      simp -dsimp -implicitDefEqProofs (disch := first | omega | assumption | (simp only [Option.isSome_some, Qt0]; done) | (simp only [UInt64.reduceToNat, UInt32.reduceToNat, UInt8.reduceToNat, List.length_cons, List.length_nil, List.length_append, Int.toNat_natCast] <;> omega) | fail) only [Nat.reduceLT, Nat.reduceLeDiff, Nat.reduceEqDiff, ↓reduceIte, Int.reduceLT, Int.reduceLE, Int.reduceToNat, Int.reduceEq, Int.reduceNe, Nat.reduceAdd, UInt8.reduceOfNat, UInt16.reduceOfNat, UInt32.reduceOfNat, UInt64.reduceOfNat, UInt64.reduceToNat, UInt32.reduceToNat, UInt16.reduceToNat, UInt8.reduceToNat, Int.reduceAdd, Int.reduceSub, Int.reduceMul, Nat.reduceMul, Qp0, Qp1, Ql0, Qe0, f0, f3, f4, f5, f6, e1]
      refine hN.out.mono ?_
      rintro v h4 ⟨rfl, hi4, hc4⟩
      have how4 := how.chg' hc4 (fun x e => by rw [e]; exact hibt)
      simp -dsimp -implicitDefEqProofs (disch := first | omega | assumption | (simp only [Option.isSome_some, Qt0]; done) | (simp only [UInt64.reduceToNat, UInt32.reduceToNat, UInt8.reduceToNat, List.length_cons, List.length_nil, List.length_append, Int.toNat_natCast] <;> omega) | fail) only [Nat.reduceLT, Nat.reduceLeDiff, Nat.reduceEqDiff, ↓reduceIte, Int.reduceLT, Int.reduceLE, Int.reduceToNat, Int.reduceEq, Int.reduceNe, Nat.reduceAdd, UInt8.reduceOfNat, UInt16.reduceOfNat, UInt32.reduceOfNat, UInt64.reduceOfNat, UInt64.reduceToNat, UInt32.reduceToNat, UInt16.reduceToNat, UInt8.reduceToNat, Int.reduceAdd, Int.reduceSub, Int.reduceMul, Nat.reduceMul, Qp0, Qp1, Ql0, Qe0, f0, f3, f4, f5, f6]
      refine Does_one (v := .int .i64 x) el_ints rfl (by omega) fun gb hgb => ?_
      have hl5 := (PH.Le.refl h4).new gb ⟨[.int .i64 x], 1⟩ hgb
      have how5 := how4.more hl5
      have hi5 := hi4.more hl5
      simp -dsimp -implicitDefEqProofs (disch := first | omega | assumption | (simp only [Option.isSome_some, Qt0]; done) | (simp only [UInt64.reduceToNat, UInt32.reduceToNat, UInt8.reduceToNat, List.length_cons, List.length_nil, List.length_append, Int.toNat_natCast] <;> omega) | fail) only [Nat.reduceLT, Nat.reduceLeDiff, Nat.reduceEqDiff, ↓reduceIte, Int.reduceLT, Int.reduceLE, Int.reduceToNat, Int.reduceEq, Int.reduceNe, Nat.reduceAdd, UInt8.reduceOfNat, UInt16.reduceOfNat, UInt32.reduceOfNat, UInt64.reduceOfNat, UInt64.reduceToNat, UInt32.reduceToNat, UInt16.reduceToNat, UInt8.reduceToNat, Int.reduceAdd, Int.reduceSub, Int.reduceMul, Nat.reduceMul, Qp0, Qp1, Ql0, Qe0, f0, f3, f4, f5, f6]
      refine Does_app el_ints how5.own (Rs.blk (k := ⟨[.int .i64 x], 1⟩) (by rw [PH.new_m, if_pos rfl]; rfl) rfl) (ints_one [_]) (by unfold maxLen; omega) (by omega) (fun v6 h6 ho6 hst6 => ?_)
      have ho7 : Own h6 1 v6 (v' ++ [(x : Int)]).length (ints (v' ++ [(x : Int)])) := by rw [← ints_snoc, List.length_append]; exact ho6
      have hi6 : RI h6 ib s st2 := by
        have hne : ∀ y k, (h4.new gb ⟨[.int .i64 x], 1⟩).m y = some k → y < h.top → h6.m y = some k := fun y k e hy => hst6.keep y k e (fun e' => by have := how5.new y e'; omega)
        cases st2 with
        | ok t2 => obtain ⟨q1, q2, q3, q4⟩ := hi5; exact ⟨q1, q2, q3, hne _ _ q4 hibt⟩
        | bad p2 => obtain ⟨q1, q2, q5⟩ := hi5; exact ⟨q1, q2, hne _ _ q5 hibt⟩
      simp -dsimp -implicitDefEqProofs (disch := first | omega | assumption | (simp only [Option.isSome_some, Qt0]; done) | (simp only [UInt64.reduceToNat, UInt32.reduceToNat, UInt8.reduceToNat, List.length_cons, List.length_nil, List.length_append, Int.toNat_natCast] <;> omega) | fail) only [Nat.reduceLT, Nat.reduceLeDiff, Nat.reduceEqDiff, ↓reduceIte, Int.reduceLT, Int.reduceLE, Int.reduceToNat, Int.reduceEq, Int.reduceNe, Nat.reduceAdd, UInt8.reduceOfNat, UInt16.reduceOfNat, UInt32.reduceOfNat, UInt64.reduceOfNat, UInt64.reduceToNat, UInt32.reduceToNat, UInt16.reduceToNat, UInt8.reduceToNat, Int.reduceAdd, Int.reduceSub, Int.reduceMul, Nat.reduceMul, Qp0, Qp1, Ql0, Qe0, f0, f3, f4, f5, f6]
      exact ⟨r, _, by omega, PH.Le.refl _, v' ++ [(x : Int)], v6, st2, by simp; omega, by trivial, by trivial, by trivial, by trivial, by simp, how5.stays hst6 ho7, hi6, hK2⟩
end
end Go.Proofs.Ytdhgmifgjaedbaa


/- Walks: ReadClaims. No condition. -/
namespace Go.Proofs.Ytdhgmifgjaedbaa
set_option linter.unusedVariables false
set_option linter.unusedSimpArgs false
open Go.RowKit Px Wr
theorem IS_put {h : PH} {ib wb : Nat} {s : List UInt8} {st : St} {kk : Bk} (hi : IS h ib s st) (hw : h.m wb = some kk) (hk : kk.lim ≠ 3) (k : Bk) : IS (h.new wb k) ib s st := by
  have hne : ∀ y l, h.m y = some ⟨l, 3⟩ → y ≠ wb := fun y l e e' => by
    rw [e', hw] at e
    injection e with e
    rw [e] at hk
    exact hk rfl
  cases st with
  | ok t => obtain ⟨a, h1, h2, h3⟩ := hi; exact ⟨a, h1, h2, by rw [PH.new_m, if_neg (hne _ _ h3)]; exact h3⟩
  | bad p => obtain ⟨a, be, h1, h2, h3, h4⟩ := hi; exact ⟨a, be, h1, h2, by rw [PH.new_m, if_neg (hne _ _ h3)]; exact h3, by rw [PH.new_m, if_neg (hne _ _ h4)]; exact h4⟩
end Go.Proofs.Ytdhgmifgjaedbaa


/- Walks: DecodeWrite. No condition. -/
namespace Go.Proofs.Ytdhgmifgjaedbaa
set_option linter.unusedVariables false
set_option linter.unusedSimpArgs false
open Go.RowKit Px Wr
theorem solo (w0 : World) (h : PH) (b lim : Nat) (ys rest : List Value) (hb : h.m b = some ⟨ys ++ rest, lim⟩) : ∃ hS : PH, hS.m b = some ⟨ys, lim⟩ ∧ ∀ (h' : PH) (rest' : List Value), h.top ≤ h'.top → h'.m b = some ⟨ys ++ rest', lim⟩ → PH.Sub w0 hS h' := by
  have hlt := h.lt _ _ hb
  refine ⟨⟨h.top, fun x => if x = b then some ⟨ys, lim⟩ else none, fun x k e => by
    by_cases hx : x = b
    · rw [hx]; exact hlt
    · rw [if_neg hx] at e; cases e⟩, by simp, fun h' rest' ht hm w s => ⟨s.below, Nat.le_trans ht s.top, fun x k e => ?_⟩⟩
  simp only at e
  by_cases hx : x = b
  · rw [if_pos hx] at e
    obtain rfl := Option.some.inj e
    subst hx
    obtain ⟨h1, cur, t, lo, hi, hc, g1, g2, g3, g4⟩ := s.sat x _ hm
    simp only at g1 g2 g3 g4
    refine ⟨h1, cur, t, lo, hi, hc, g1, g2, by simp only; simp only [List.length_append] at g3; omega, ?_⟩
    have h5 := congrArg (List.take ys.length) g4
    rw [List.take_take, List.take_left, List.length_append, Nat.min_eq_left (by omega)] at h5
    exact h5
  · rw [if_neg hx] at e; cases e
/-- .. and the vector lies in what is new. -/
def DEWF (w0 : World) (h0 h : PH) (s : List UInt8) (v : Value) : Prop :=
  (∃ c A cap, IsW s c ∧ v = .tuple #[.agg (wtL c A cap).toArray, .nilIface] ∧ c.d.length ≤ cap ∧ Rv w0 h A (ints c.d) ∧ ∀ a, A = some a → h0.top ≤ a.block) ∨ ((∀ c, ¬ IsW s c) ∧ ∃ ev e, v = .tuple #[.agg (wtL wtZ none 0).toArray, ev] ∧ EV h e ev ∧ e.num = 2)
set_option maxRecDepth 20000 in
set_option maxHeartbeats 4000000 in
theorem decWF_any (s : List UInt8) (hs : s.length ≤ 1000000000) (w0 : World) (h : PH) : PCalls Try.prog w0 40 [str s] h fun r h' => DEWF w0 h h' s r ∧ PH.Le h h' := by
  refine PCalls_body Try.func40 (by kernel_rfl) rfl _ Try.ntmps40 (by kernel_rfl) (by kernel_rfl) _ Try.results40 ?_
  simp -dsimp -implicitDefEqProofs (disch := first | omega | assumption | (simp only [Option.isSome_some, Qt0]; done) | (simp only [UInt64.reduceToNat, UInt32.reduceToNat, UInt8.reduceToNat, List.length_cons, List.length_nil, List.length_append, Int.toNat_natCast] <;> omega) | fail) only [Nat.reduceLT, Nat.reduceLeDiff, Nat.reduceEqDiff, ↓reduceIte, Int.reduceLT, Int.reduceLE, Int.reduceToNat, Int.reduceEq, Int.reduceNe, Nat.reduceAdd, UInt8.reduceOfNat, UInt16.reduceOfNat, UInt32.reduceOfNat, UInt64.reduceOfNat, UInt64.reduceToNat, UInt32.reduceToNat, UInt16.reduceToNat, UInt8.reduceToNat, Int.reduceAdd, Int.reduceSub, Int.reduceMul, Nat.reduceMul, Qp0, Qp1, Ql0, Qe0]
  refine fun rb hrb => ?_
  have hle := (PH.Le.refl h).new rb ⟨[.int .i64 0, .int .i64 0, .int .i64 0, .int .i64 0, .slice none 0 0, .string ⟨#[]⟩, .string ⟨#[]⟩, .string ⟨#[]⟩, .bool false, .int .i64 0], 10⟩ hrb
  have hm : (h.new rb ⟨[.int .i64 0, .int .i64 0, .int .i64 0, .int .i64 0, .slice none 0 0, .string ⟨#[]⟩, .string ⟨#[]⟩, .string ⟨#[]⟩, .bool false, .int .i64 0], 10⟩).m rb = some ⟨[.int .i64 0, .int .i64 0, .int .i64 0, .int .i64 0, .slice none 0 0, .string ⟨#[]⟩, .string ⟨#[]⟩, .string ⟨#[]⟩, .bool false, .int .i64 0], 10⟩ := by rw [PH.new_m, if_pos rfl]
  simp -dsimp -implicitDefEqProofs (disch := first | omega | assumption | (simp only [Option.isSome_some, Qt0]; done) | (simp only [UInt64.reduceToNat, UInt32.reduceToNat, UInt8.reduceToNat, List.length_cons, List.length_nil, List.length_append, Int.toNat_natCast] <;> omega) | fail) only [Nat.reduceLT, Nat.reduceLeDiff, Nat.reduceEqDiff, ↓reduceIte, Int.reduceLT, Int.reduceLE, Int.reduceToNat, Int.reduceEq, Int.reduceNe, Nat.reduceAdd, UInt8.reduceOfNat, UInt16.reduceOfNat, UInt32.reduceOfNat, UInt64.reduceOfNat, UInt64.reduceToNat, UInt32.reduceToNat, UInt16.reduceToNat, UInt8.reduceToNat, Int.reduceAdd, Int.reduceSub, Int.reduceMul, Nat.reduceMul, Qp0, Qp1, Ql0, Qe0]
  generalize h.new rb ⟨[.int .i64 0, .int .i64 0, .int .i64 0, .int .i64 0, .slice none 0 0, .string ⟨#[]⟩, .string ⟨#[]⟩, .string ⟨#[]⟩, .bool false, .int .i64 0], 10⟩ = h1 at *
  refine (read_any w0 h1 s).mono ?_
  rintro v q2 ⟨ib, rfl, hib, hl2, hi⟩
  have hibl := ib_lt hi
  have hne : rb ≠ ib := by have := h1.lt _ _ hm; omega
  have hib0 : h.top ≤ ib := Nat.le_trans hle.top hib
  have hm := hl2.m _ _ hm
  have hle2 := hle.trans hl2
  have hcc := Chg.refl (· = ib) q2
  simp -dsimp -implicitDefEqProofs (disch := first | omega | assumption | (simp only [Option.isSome_some, Qt0]; done) | (simp only [UInt64.reduceToNat, UInt32.reduceToNat, UInt8.reduceToNat, List.length_cons, List.length_nil, List.length_append, Int.toNat_natCast] <;> omega) | fail) only [Nat.reduceLT, Nat.reduceLeDiff, Nat.reduceEqDiff, ↓reduceIte, Int.reduceLT, Int.reduceLE, Int.reduceToNat, Int.reduceEq, Int.reduceNe, Nat.reduceAdd, UInt8.reduceOfNat, UInt16.reduceOfNat, UInt32.reduceOfNat, UInt64.reduceOfNat, UInt64.reduceToNat, UInt32.reduceToNat, UInt16.reduceToNat, UInt8.reduceToNat, Int.reduceAdd, Int.reduceSub, Int.reduceMul, Nat.reduceMul, Qp0, Qp1, Ql0, Qe0]
  refine (inum_any w0 _ ib s hs 16 _ hi).mono ?_
  rintro v q3 ⟨rfl, hi, hc⟩
  obtain ⟨⟨x1, s1⟩, e1⟩ : ∃ p, p = numS 16 s.length (.ok s) := ⟨_, rfl⟩
  rw [← e1] at hi
  rw [← e1]
  simp only at hi
  have hm := hc.m _ _ hm hne
  have hcc := hcc.trans hc
  have hibl := Nat.lt_of_lt_of_le hibl hc.top
  simp -dsimp -implicitDefEqProofs (disch := first | omega | assumption | (simp only [Option.isSome_some, Qt0]; done) | (simp only [UInt64.reduceToNat, UInt32.reduceToNat, UInt8.reduceToNat, List.length_cons, List.length_nil, List.length_append, Int.toNat_natCast] <;> omega) | fail) only [Nat.reduceLT, Nat.reduceLeDiff, Nat.reduceEqDiff, ↓reduceIte, Int.reduceLT, Int.reduceLE, Int.reduceToNat, Int.reduceEq, Int.reduceNe, Nat.reduceAdd, UInt8.reduceOfNat, UInt16.reduceOfNat, UInt32.reduceOfNat, UInt64.reduceOfNat, UInt64.reduceToNat, UInt32.reduceToNat, UInt16.reduceToNat, UInt8.reduceToNat, Int.reduceAdd, Int.reduceSub, Int.reduceMul, Nat.reduceMul, Qp0, Qp1, Ql0, Qe0, rd_M, rdM_some, hm, List.set_cons_zero, List.set_cons_succ, List.take_zero, List.drop_succ_cons, List.drop_zero, List.drop_nil, List.nil_append, List.append_nil, List.take_succ_cons, ite_true, PH.new_new]
  refine (inum_any w0 _ ib s hs 1099511627776 _ hi).mono ?_
  rintro v q4 ⟨rfl, hi, hc⟩
  obtain ⟨⟨x2, s2⟩, e2⟩ : ∃ p, p = numS 1099511627776 s.length s1 := ⟨_, rfl⟩
  rw [← e2] at hi
  rw [← e2]
  simp only at hi
  have hm := hc.m _ _ hm hne
  have hcc := hcc.trans hc
  have hibl := Nat.lt_of_lt_of_le hibl hc.top
  simp -dsimp -implicitDefEqProofs (disch := first | omega | assumption | (simp only [Option.isSome_some, Qt0]; done) | (simp only [UInt64.reduceToNat, UInt32.reduceToNat, UInt8.reduceToNat, List.length_cons, List.length_nil, List.length_append, Int.toNat_natCast] <;> omega) | fail) only [Nat.reduceLT, Nat.reduceLeDiff, Nat.reduceEqDiff, ↓reduceIte, Int.reduceLT, Int.reduceLE, Int.reduceToNat, Int.reduceEq, Int.reduceNe, Nat.reduceAdd, UInt8.reduceOfNat, UInt16.reduceOfNat, UInt32.reduceOfNat, UInt64.reduceOfNat, UInt64.reduceToNat, UInt32.reduceToNat, UInt16.reduceToNat, UInt8.reduceToNat, Int.reduceAdd, Int.reduceSub, Int.reduceMul, Nat.reduceMul, Qp0, Qp1, Ql0, Qe0, rd_M, rdM_some, hm, List.set_cons_zero, List.set_cons_succ, List.take_zero, List.drop_succ_cons, List.drop_zero, List.drop_nil, List.nil_append, List.append_nil, List.take_succ_cons, ite_true, PH.new_new]
  refine fun wb hwb => ?_
  have hlw := (PH.Le.refl q4).new wb ⟨[.int .i64 x1, .int .i64 x2, .int .i64 0, .int .i64 0, .slice none 0 0, .string ⟨#[]⟩, .string ⟨#[]⟩, .string ⟨#[]⟩, .bool false, .int .i64 0], 10⟩ hwb
  have hw : (q4.new wb ⟨[.int .i64 x1, .int .i64 x2, .int .i64 0, .int .i64 0, .slice none 0 0, .string ⟨#[]⟩, .string ⟨#[]⟩, .string ⟨#[]⟩, .bool false, .int .i64 0], 10⟩).m wb = some ⟨[.int .i64 x1, .int .i64 x2, .int .i64 0, .int .i64 0, .slice none 0 0, .string ⟨#[]⟩, .string ⟨#[]⟩, .string ⟨#[]⟩, .bool false, .int .i64 0], 10⟩ := by rw [PH.new_m, if_pos rfl]
  have ha := allOne_of [.int .i64 x1, .int .i64 x2, .int .i64 0, .int .i64 0, .slice none 0 0, .string ⟨#[]⟩, .string ⟨#[]⟩, .string ⟨#[]⟩, .bool false, .int .i64 0] rfl
  have hrw : rb ≠ wb := by have := q4.lt _ _ hm; omega
  have hnw : wb ≠ ib := by omega
  have hwb0 : h.top ≤ wb := Nat.le_trans (Nat.le_trans hle2.top hcc.top) hwb
  have hcc := (hcc.mono (G := fun x => x = ib ∨ x = rb ∨ x = wb) fun x _ e => .inl e).trans (.le hlw)
  have hm := hlw.m _ _ hm
  have hi := hi.more hlw
  have hibl := Nat.lt_of_lt_of_le hibl hlw.top
  simp -dsimp -implicitDefEqProofs (disch := first | omega | assumption | (simp only [Option.isSome_some, Qt0]; done) | (simp only [UInt64.reduceToNat, UInt32.reduceToNat, UInt8.reduceToNat, List.length_cons, List.length_nil, List.length_append, Int.toNat_natCast] <;> omega) | fail) only [Nat.reduceLT, Nat.reduceLeDiff, Nat.reduceEqDiff, ↓reduceIte, Int.reduceLT, Int.reduceLE, Int.reduceToNat, Int.reduceEq, Int.reduceNe, Nat.reduceAdd, UInt8.reduceOfNat, UInt16.reduceOfNat, UInt32.reduceOfNat, UInt64.reduceOfNat, UInt64.reduceToNat, UInt32.reduceToNat, UInt16.reduceToNat, UInt8.reduceToNat, Int.reduceAdd, Int.reduceSub, Int.reduceMul, Nat.reduceMul, Qp0, Qp1, Ql0, Qe0, List.set_cons_zero, List.set_cons_succ, List.take_zero, List.drop_succ_cons, List.drop_zero, List.drop_nil, List.nil_append, List.append_nil, List.take_succ_cons, ite_true, PH.new_new]
  generalize q4.new wb ⟨[.int .i64 x1, .int .i64 x2, .int .i64 0, .int .i64 0, .slice none 0 0, .string ⟨#[]⟩, .string ⟨#[]⟩, .string ⟨#[]⟩, .bool false, .int .i64 0], 10⟩ = q5 at *
  obtain ⟨hS, hSm, hSs⟩ := solo w0 q5 wb 10 [.int .i64 x1, .int .i64 x2] _ hw
  refine PW_plan [0, 2, 3, 1, 4, 5, 6] hS (by kernel_rfl) (by decide +kernel) (by kernel_rfl) (by kernel_rfl) (by kernel_rfl) (fun c f h hq => by simp only [thenC_panic, thenK_panic, inBlk_panic, thenN_panic, vcRet_panic] at hq) (hSs _ _ (Nat.le_refl _) hw) ?_
  have hSt := q5.top
  have htop0 := Nat.le_refl q5.top
  have hsb : ∀ (t : TypeId) (ps : Array (Nat × Operand)), silentB Try.prog (.build t ps) = true := fun _ _ => rfl
  simp -dsimp -implicitDefEqProofs (disch := first | omega | assumption | (simp only [Option.isSome_some, Qt0]; done) | (simp only [UInt64.reduceToNat, UInt32.reduceToNat, UInt8.reduceToNat, List.length_cons, List.length_nil, List.length_append, Int.toNat_natCast] <;> omega) | fail) only [Nat.reduceLT, Nat.reduceLeDiff, Nat.reduceEqDiff, ↓reduceIte, Int.reduceLT, Int.reduceLE, Int.reduceToNat, Int.reduceEq, Int.reduceNe, Nat.reduceAdd, UInt8.reduceOfNat, UInt16.reduceOfNat, UInt32.reduceOfNat, UInt64.reduceOfNat, UInt64.reduceToNat, UInt32.reduceToNat, UInt16.reduceToNat, UInt8.reduceToNat, Int.reduceAdd, Int.reduceSub, Int.reduceMul, Nat.reduceMul, Qp0, Qp1, Ql0, Qe0, rd_M, rdM_some, hSm, hsb]
  refine (inum_any w0 _ ib s hs 1099511627776 _ hi).mono ?_
  rintro v q6 ⟨rfl, hi, hc⟩
  obtain ⟨⟨x3, s3⟩, e3⟩ : ∃ p, p = numS 1099511627776 s.length s2 := ⟨_, rfl⟩
  rw [← e3] at hi
  rw [← e3]
  simp only at hi
  have hm := hc.m _ _ hm hne
  have hw := hc.m _ _ hw hnw
  have hcc := hcc.trans (hc.mono (G := fun x => x = ib ∨ x = rb ∨ x = wb) fun x _ e => .inl e)
  have hibl := Nat.lt_of_lt_of_le hibl hc.top
  have htop0 := Nat.le_trans htop0 hc.top
  refine ⟨hSs _ _ htop0 hw, ?_⟩
  have ha3 := allOne_of [.int .i64 x3, .int .i64 x1] rfl
  simp -dsimp -implicitDefEqProofs (disch := first | omega | assumption | (simp only [Option.isSome_some, Qt0]; done) | (simp only [UInt64.reduceToNat, UInt32.reduceToNat, UInt8.reduceToNat, List.length_cons, List.length_nil, List.length_append, Int.toNat_natCast] <;> omega) | fail) only [Nat.reduceLT, Nat.reduceLeDiff, Nat.reduceEqDiff, ↓reduceIte, Int.reduceLT, Int.reduceLE, Int.reduceToNat, Int.reduceEq, Int.reduceNe, Nat.reduceAdd, UInt8.reduceOfNat, UInt16.reduceOfNat, UInt32.reduceOfNat, UInt64.reduceOfNat, UInt64.reduceToNat, UInt32.reduceToNat, UInt16.reduceToNat, UInt8.reduceToNat, Int.reduceAdd, Int.reduceSub, Int.reduceMul, Nat.reduceMul, Qp0, Qp1, Ql0, Qe0, rd_M, rdM_some, hSm, hw, hsb, List.set_cons_zero, List.set_cons_succ, List.take_zero, List.drop_succ_cons, List.drop_zero, List.drop_nil, List.nil_append, List.append_nil, List.take_succ_cons, ite_true, PH.new_new]
  refine ⟨hSs _ [.int .i64 x3, .int .i64 x1, .slice none 0 0, .string ⟨#[]⟩, .string ⟨#[]⟩, .string ⟨#[]⟩, .bool false, .int .i64 0] (by simp only [PH.new_top]; omega) (by rw [PH.new_m, if_pos rfl]; rfl), ?_⟩
  have hcc := hcc.put (F := fun x => x = ib ∨ x = rb ∨ x = wb) (b := wb) (.inr (.inr rfl)) ⟨[.int .i64 x1, .int .i64 x2, .int .i64 x3, .int .i64 x1, .slice none 0 0, .string ⟨#[]⟩, .string ⟨#[]⟩, .string ⟨#[]⟩, .bool false, .int .i64 0], 10⟩
  have hi := IS_put hi hw (show (10 : Nat) ≠ 3 by omega) ⟨[.int .i64 x1, .int .i64 x2, .int .i64 x3, .int .i64 x1, .slice none 0 0, .string ⟨#[]⟩, .string ⟨#[]⟩, .string ⟨#[]⟩, .bool false, .int .i64 0], 10⟩
  have hm : (q6.new wb ⟨[.int .i64 x1, .int .i64 x2, .int .i64 x3, .int .i64 x1, .slice none 0 0, .string ⟨#[]⟩, .string ⟨#[]⟩, .string ⟨#[]⟩, .bool false, .int .i64 0], 10⟩).m rb = some ⟨[.int .i64 0, .int .i64 0, .int .i64 0, .int .i64 0, .slice none 0 0, .string ⟨#[]⟩, .string ⟨#[]⟩, .string ⟨#[]⟩, .bool false, .int .i64 0], 10⟩ := by rw [PH.new_m, if_neg hrw]; exact hm
  have hw : (q6.new wb ⟨[.int .i64 x1, .int .i64 x2, .int .i64 x3, .int .i64 x1, .slice none 0 0, .string ⟨#[]⟩, .string ⟨#[]⟩, .string ⟨#[]⟩, .bool false, .int .i64 0], 10⟩).m wb = some ⟨[.int .i64 x1, .int .i64 x2, .int .i64 x3, .int .i64 x1, .slice none 0 0, .string ⟨#[]⟩, .string ⟨#[]⟩, .string ⟨#[]⟩, .bool false, .int .i64 0], 10⟩ := by rw [PH.new_m, if_pos rfl]
  have hibl : ib < (q6.new wb ⟨[.int .i64 x1, .int .i64 x2, .int .i64 x3, .int .i64 x1, .slice none 0 0, .string ⟨#[]⟩, .string ⟨#[]⟩, .string ⟨#[]⟩, .bool false, .int .i64 0], 10⟩).top := by simp only [PH.new_top]; omega
  generalize q6.new wb ⟨[.int .i64 x1, .int .i64 x2, .int .i64 x3, .int .i64 x1, .slice none 0 0, .string ⟨#[]⟩, .string ⟨#[]⟩, .string ⟨#[]⟩, .bool false, .int .i64 0], 10⟩ = q7 at *
  simp -dsimp -implicitDefEqProofs (disch := first | omega | assumption | (simp only [Option.isSome_some, Qt0]; done) | (simp only [UInt64.reduceToNat, UInt32.reduceToNat, UInt8.reduceToNat, List.length_cons, List.length_nil, List.length_append, Int.toNat_natCast] <;> omega) | fail) only [Nat.reduceLT, Nat.reduceLeDiff, Nat.reduceEqDiff, ↓reduceIte, Int.reduceLT, Int.reduceLE, Int.reduceToNat, Int.reduceEq, Int.reduceNe, Nat.reduceAdd, UInt8.reduceOfNat, UInt16.reduceOfNat, UInt32.reduceOfNat, UInt64.reduceOfNat, UInt64.reduceToNat, UInt32.reduceToNat, UInt16.reduceToNat, UInt8.reduceToNat, Int.reduceAdd, Int.reduceSub, Int.reduceMul, Nat.reduceMul, Qp0, Qp1, Ql0, Qe0]
  refine (ivec_any w0 _ ib s hs _ hi).mono ?_
  rintro v q8 ⟨A, cap, rfl, how, hi⟩
  obtain ⟨⟨x4, s4⟩, e4⟩ : ∃ p, p = vecS s.length s3 := ⟨_, rfl⟩
  rw [← e4] at hi how
  rw [← e4]
  simp only at hi how
  have hc := how.chg
  obtain ⟨_, _, hA, hcap⟩ := how.own.len
  injection hA with hA1 hA2 hA3
  subst hA1; subst hA3
  have hnA : ∀ a, A = some a → a.block ≠ ib ∧ a.block ≠ rb ∧ a.block ≠ wb ∧ h.top ≤ a.block := fun a ea => by
    have hrb0 : h.top ≤ rb := hrb
    have h5 := how.new _ (how.own.A a ea)
    have h6 := hibl
    have h7 := q7.lt _ _ hm
    have h8 := q7.lt _ _ hw
    refine ⟨?_, ?_, ?_, ?_⟩ <;> omega
  have hrv : Rv w0 q8 A (ints x4) := how.rv
  have hm := hc.m _ _ hm hne
  have hw := hc.m _ _ hw hnw
  have hcc := hcc.trans (hc.mono (G := fun x => x = ib ∨ x = rb ∨ x = wb) fun x _ e => .inl e)
  have hibl := Nat.lt_of_lt_of_le hibl hc.top
  simp -dsimp -implicitDefEqProofs (disch := first | omega | assumption | (simp only [Option.isSome_some, Qt0]; done) | (simp only [UInt64.reduceToNat, UInt32.reduceToNat, UInt8.reduceToNat, List.length_cons, List.length_nil, List.length_append, Int.toNat_natCast] <;> omega) | fail) only [Nat.reduceLT, Nat.reduceLeDiff, Nat.reduceEqDiff, ↓reduceIte, Int.reduceLT, Int.reduceLE, Int.reduceToNat, Int.reduceEq, Int.reduceNe, Nat.reduceAdd, UInt8.reduceOfNat, UInt16.reduceOfNat, UInt32.reduceOfNat, UInt64.reduceOfNat, UInt64.reduceToNat, UInt32.reduceToNat, UInt16.reduceToNat, UInt8.reduceToNat, Int.reduceAdd, Int.reduceSub, Int.reduceMul, Nat.reduceMul, Qp0, Qp1, Ql0, Qe0, rd_M, rdM_some, hm, hw, List.set_cons_zero, List.set_cons_succ, List.take_zero, List.drop_succ_cons, List.drop_zero, List.drop_nil, List.nil_append, List.append_nil, List.take_succ_cons, ite_true, PH.new_new]
  have hcc := hcc.put (F := fun x => x = ib ∨ x = rb ∨ x = wb) (b := wb) (.inr (.inr rfl)) ⟨[.int .i64 x1, .int .i64 x2, .int .i64 x3, .int .i64 x1, .slice A x4.length cap, .string ⟨#[]⟩, .string ⟨#[]⟩, .string ⟨#[]⟩, .bool false, .int .i64 0], 10⟩
  have hi := IS_put hi hw (show (10 : Nat) ≠ 3 by omega) ⟨[.int .i64 x1, .int .i64 x2, .int .i64 x3, .int .i64 x1, .slice A x4.length cap, .string ⟨#[]⟩, .string ⟨#[]⟩, .string ⟨#[]⟩, .bool false, .int .i64 0], 10⟩
  have hrv := hrv.chg (F := (· = wb)) ((Chg.refl (· = wb) q8).one ⟨[.int .i64 x1, .int .i64 x2, .int .i64 x3, .int .i64 x1, .slice A x4.length cap, .string ⟨#[]⟩, .string ⟨#[]⟩, .string ⟨#[]⟩, .bool false, .int .i64 0], 10⟩) (fun a ea e => (hnA a ea).2.2.1 e)
  have hm : (q8.new wb ⟨[.int .i64 x1, .int .i64 x2, .int .i64 x3, .int .i64 x1, .slice A x4.length cap, .string ⟨#[]⟩, .string ⟨#[]⟩, .string ⟨#[]⟩, .bool false, .int .i64 0], 10⟩).m rb = some ⟨[.int .i64 0, .int .i64 0, .int .i64 0, .int .i64 0, .slice none 0 0, .string ⟨#[]⟩, .string ⟨#[]⟩, .string ⟨#[]⟩, .bool false, .int .i64 0], 10⟩ := by rw [PH.new_m, if_neg hrw]; exact hm
  have hw : (q8.new wb ⟨[.int .i64 x1, .int .i64 x2, .int .i64 x3, .int .i64 x1, .slice A x4.length cap, .string ⟨#[]⟩, .string ⟨#[]⟩, .string ⟨#[]⟩, .bool false, .int .i64 0], 10⟩).m wb = some ⟨[.int .i64 x1, .int .i64 x2, .int .i64 x3, .int .i64 x1, .slice A x4.length cap, .string ⟨#[]⟩, .string ⟨#[]⟩, .string ⟨#[]⟩, .bool false, .int .i64 0], 10⟩ := by rw [PH.new_m, if_pos rfl]
  have hibl : ib < (q8.new wb ⟨[.int .i64 x1, .int .i64 x2, .int .i64 x3, .int .i64 x1, .slice A x4.length cap, .string ⟨#[]⟩, .string ⟨#[]⟩, .string ⟨#[]⟩, .bool false, .int .i64 0], 10⟩).top := by simp only [PH.new_top]; omega
  generalize q8.new wb ⟨[.int .i64 x1, .int .i64 x2, .int .i64 x3, .int .i64 x1, .slice A x4.length cap, .string ⟨#[]⟩, .string ⟨#[]⟩, .string ⟨#[]⟩, .bool false, .int .i64 0], 10⟩ = q9 at *
  refine (itext_any w0 _ ib s hs 64 _ hi).mono ?_
  rintro v q10 ⟨rfl, hi, hc⟩
  obtain ⟨⟨x5, s5⟩, e5⟩ : ∃ p, p = txtS 64 s.length s4 := ⟨_, rfl⟩
  rw [← e5] at hi
  rw [← e5]
  simp only at hi
  have hrv := hrv.chg hc (fun a ea e => (hnA a ea).1 e)
  have hm := hc.m _ _ hm hne
  have hw := hc.m _ _ hw hnw
  have hcc := hcc.trans (hc.mono (G := fun x => x = ib ∨ x = rb ∨ x = wb) fun x _ e => .inl e)
  have hibl := Nat.lt_of_lt_of_le hibl hc.top
  simp -dsimp -implicitDefEqProofs (disch := first | omega | assumption | (simp only [Option.isSome_some, Qt0]; done) | (simp only [UInt64.reduceToNat, UInt32.reduceToNat, UInt8.reduceToNat, List.length_cons, List.length_nil, List.length_append, Int.toNat_natCast] <;> omega) | fail) only [Nat.reduceLT, Nat.reduceLeDiff, Nat.reduceEqDiff, ↓reduceIte, Int.reduceLT, Int.reduceLE, Int.reduceToNat, Int.reduceEq, Int.reduceNe, Nat.reduceAdd, UInt8.reduceOfNat, UInt16.reduceOfNat, UInt32.reduceOfNat, UInt64.reduceOfNat, UInt64.reduceToNat, UInt32.reduceToNat, UInt16.reduceToNat, UInt8.reduceToNat, Int.reduceAdd, Int.reduceSub, Int.reduceMul, Nat.reduceMul, Qp0, Qp1, Ql0, Qe0, rd_M, rdM_some, hm, hw, List.set_cons_zero, List.set_cons_succ, List.take_zero, List.drop_succ_cons, List.drop_zero, List.drop_nil, List.nil_append, List.append_nil, List.take_succ_cons, ite_true, PH.new_new]
  refine (itext_any w0 _ ib s hs 32 _ hi).mono ?_
  rintro v q11 ⟨rfl, hi, hc⟩
  obtain ⟨⟨x6, s6⟩, e6⟩ : ∃ p, p = txtS 32 s.length s5 := ⟨_, rfl⟩
  rw [← e6] at hi
  rw [← e6]
  simp only at hi
  have hrv := hrv.chg hc (fun a ea e => (hnA a ea).1 e)
  have hm := hc.m _ _ hm hne
  have hw := hc.m _ _ hw hnw
  have hcc := hcc.trans (hc.mono (G := fun x => x = ib ∨ x = rb ∨ x = wb) fun x _ e => .inl e)
  have hibl := Nat.lt_of_lt_of_le hibl hc.top
  simp -dsimp -implicitDefEqProofs (disch := first | omega | assumption | (simp only [Option.isSome_some, Qt0]; done) | (simp only [UInt64.reduceToNat, UInt32.reduceToNat, UInt8.reduceToNat, List.length_cons, List.length_nil, List.length_append, Int.toNat_natCast] <;> omega) | fail) only [Nat.reduceLT, Nat.reduceLeDiff, Nat.reduceEqDiff, ↓reduceIte, Int.reduceLT, Int.reduceLE, Int.reduceToNat, Int.reduceEq, Int.reduceNe, Nat.reduceAdd, UInt8.reduceOfNat, UInt16.reduceOfNat, UInt32.reduceOfNat, UInt64.reduceOfNat, UInt64.reduceToNat, UInt32.reduceToNat, UInt16.reduceToNat, UInt8.reduceToNat, Int.reduceAdd, Int.reduceSub, Int.reduceMul, Nat.reduceMul, Qp0, Qp1, Ql0, Qe0, rd_M, rdM_some, hm, hw, List.set_cons_zero, List.set_cons_succ, List.take_zero, List.drop_succ_cons, List.drop_zero, List.drop_nil, List.nil_append, List.append_nil, List.take_succ_cons, ite_true, PH.new_new]
  have hcc := hcc.put (F := fun x => x = ib ∨ x = rb ∨ x = wb) (b := wb) (.inr (.inr rfl)) ⟨[.int .i64 x1, .int .i64 x2, .int .i64 x3, .int .i64 x1, .slice A x4.length cap, str x5, str x6, .string ⟨#[]⟩, .bool false, .int .i64 0], 10⟩
  have hi := IS_put hi hw (show (10 : Nat) ≠ 3 by omega) ⟨[.int .i64 x1, .int .i64 x2, .int .i64 x3, .int .i64 x1, .slice A x4.length cap, str x5, str x6, .string ⟨#[]⟩, .bool false, .int .i64 0], 10⟩
  have hrv := hrv.chg (F := (· = wb)) ((Chg.refl (· = wb) q11).one ⟨[.int .i64 x1, .int .i64 x2, .int .i64 x3, .int .i64 x1, .slice A x4.length cap, str x5, str x6, .string ⟨#[]⟩, .bool false, .int .i64 0], 10⟩) (fun a ea e => (hnA a ea).2.2.1 e)
  have hm : (q11.new wb ⟨[.int .i64 x1, .int .i64 x2, .int .i64 x3, .int .i64 x1, .slice A x4.length cap, str x5, str x6, .string ⟨#[]⟩, .bool false, .int .i64 0], 10⟩).m rb = some ⟨[.int .i64 0, .int .i64 0, .int .i64 0, .int .i64 0, .slice none 0 0, .string ⟨#[]⟩, .string ⟨#[]⟩, .string ⟨#[]⟩, .bool false, .int .i64 0], 10⟩ := by rw [PH.new_m, if_neg hrw]; exact hm
  have hw : (q11.new wb ⟨[.int .i64 x1, .int .i64 x2, .int .i64 x3, .int .i64 x1, .slice A x4.length cap, str x5, str x6, .string ⟨#[]⟩, .bool false, .int .i64 0], 10⟩).m wb = some ⟨[.int .i64 x1, .int .i64 x2, .int .i64 x3, .int .i64 x1, .slice A x4.length cap, str x5, str x6, .string ⟨#[]⟩, .bool false, .int .i64 0], 10⟩ := by rw [PH.new_m, if_pos rfl]
  have hibl : ib < (q11.new wb ⟨[.int .i64 x1, .int .i64 x2, .int .i64 x3, .int .i64 x1, .slice A x4.length cap, str x5, str x6, .string ⟨#[]⟩, .bool false, .int .i64 0], 10⟩).top := by simp only [PH.new_top]; omega
  generalize q11.new wb ⟨[.int .i64 x1, .int .i64 x2, .int .i64 x3, .int .i64 x1, .slice A x4.length cap, str x5, str x6, .string ⟨#[]⟩, .bool false, .int .i64 0], 10⟩ = q12 at *
  refine (iflag_any w0 _ ib s hs _ hi).mono ?_
  rintro v q13 ⟨rfl, hi, hc⟩
  obtain ⟨⟨x7, s7⟩, e7⟩ : ∃ p, p = flagS s.length s6 := ⟨_, rfl⟩
  rw [← e7] at hi
  rw [← e7]
  simp only at hi
  have hrv := hrv.chg hc (fun a ea e => (hnA a ea).1 e)
  have hm := hc.m _ _ hm hne
  have hw := hc.m _ _ hw hnw
  have hcc := hcc.trans (hc.mono (G := fun x => x = ib ∨ x = rb ∨ x = wb) fun x _ e => .inl e)
  have hibl := Nat.lt_of_lt_of_le hibl hc.top
  simp -dsimp -implicitDefEqProofs (disch := first | omega | assumption | (simp only [Option.isSome_some, Qt0]; done) | (simp only [UInt64.reduceToNat, UInt32.reduceToNat, UInt8.reduceToNat, List.length_cons, List.length_nil, List.length_append, Int.toNat_natCast] <;> omega) | fail) only [Nat.reduceLT, Nat.reduceLeDiff, Nat.reduceEqDiff, ↓reduceIte, Int.reduceLT, Int.reduceLE, Int.reduceToNat, Int.reduceEq, Int.reduceNe, Nat.reduceAdd, UInt8.reduceOfNat, UInt16.reduceOfNat, UInt32.reduceOfNat, UInt64.reduceOfNat, UInt64.reduceToNat, UInt32.reduceToNat, UInt16.reduceToNat, UInt8.reduceToNat, Int.reduceAdd, Int.reduceSub, Int.reduceMul, Nat.reduceMul, Qp0, Qp1, Ql0, Qe0, rd_M, rdM_some, hm, hw, List.set_cons_zero, List.set_cons_succ, List.take_zero, List.drop_succ_cons, List.drop_zero, List.drop_nil, List.nil_append, List.append_nil, List.take_succ_cons, ite_true, PH.new_new]
  refine (itext_any w0 _ ib s hs 128 _ hi).mono ?_
  rintro v q14 ⟨rfl, hi, hc⟩
  obtain ⟨⟨x8, s8⟩, e8⟩ : ∃ p, p = txtS 128 s.length s7 := ⟨_, rfl⟩
  rw [← e8] at hi
  rw [← e8]
  simp only at hi
  have hrv := hrv.chg hc (fun a ea e => (hnA a ea).1 e)
  have hm := hc.m _ _ hm hne
  have hw := hc.m _ _ hw hnw
  have hcc := hcc.trans (hc.mono (G := fun x => x = ib ∨ x = rb ∨ x = wb) fun x _ e => .inl e)
  have hibl := Nat.lt_of_lt_of_le hibl hc.top
  simp -dsimp -implicitDefEqProofs (disch := first | omega | assumption | (simp only [Option.isSome_some, Qt0]; done) | (simp only [UInt64.reduceToNat, UInt32.reduceToNat, UInt8.reduceToNat, List.length_cons, List.length_nil, List.length_append, Int.toNat_natCast] <;> omega) | fail) only [Nat.reduceLT, Nat.reduceLeDiff, Nat.reduceEqDiff, ↓reduceIte, Int.reduceLT, Int.reduceLE, Int.reduceToNat, Int.reduceEq, Int.reduceNe, Nat.reduceAdd, UInt8.reduceOfNat, UInt16.reduceOfNat, UInt32.reduceOfNat, UInt64.reduceOfNat, UInt64.reduceToNat, UInt32.reduceToNat, UInt16.reduceToNat, UInt8.reduceToNat, Int.reduceAdd, Int.reduceSub, Int.reduceMul, Nat.reduceMul, Qp0, Qp1, Ql0, Qe0, rd_M, rdM_some, hm, hw, List.set_cons_zero, List.set_cons_succ, List.take_zero, List.drop_succ_cons, List.drop_zero, List.drop_nil, List.nil_append, List.append_nil, List.take_succ_cons, ite_true, PH.new_new]
  have hcc := hcc.put (F := fun x => x = ib ∨ x = rb ∨ x = wb) (b := wb) (.inr (.inr rfl)) ⟨[.int .i64 x1, .int .i64 x2, .int .i64 x3, .int .i64 x1, .slice A x4.length cap, str x5, str x6, str x8, .bool x7, .int .i64 0], 10⟩
  have hi := IS_put hi hw (show (10 : Nat) ≠ 3 by omega) ⟨[.int .i64 x1, .int .i64 x2, .int .i64 x3, .int .i64 x1, .slice A x4.length cap, str x5, str x6, str x8, .bool x7, .int .i64 0], 10⟩
  have hrv := hrv.chg (F := (· = wb)) ((Chg.refl (· = wb) q14).one ⟨[.int .i64 x1, .int .i64 x2, .int .i64 x3, .int .i64 x1, .slice A x4.length cap, str x5, str x6, str x8, .bool x7, .int .i64 0], 10⟩) (fun a ea e => (hnA a ea).2.2.1 e)
  have hm : (q14.new wb ⟨[.int .i64 x1, .int .i64 x2, .int .i64 x3, .int .i64 x1, .slice A x4.length cap, str x5, str x6, str x8, .bool x7, .int .i64 0], 10⟩).m rb = some ⟨[.int .i64 0, .int .i64 0, .int .i64 0, .int .i64 0, .slice none 0 0, .string ⟨#[]⟩, .string ⟨#[]⟩, .string ⟨#[]⟩, .bool false, .int .i64 0], 10⟩ := by rw [PH.new_m, if_neg hrw]; exact hm
  have hw : (q14.new wb ⟨[.int .i64 x1, .int .i64 x2, .int .i64 x3, .int .i64 x1, .slice A x4.length cap, str x5, str x6, str x8, .bool x7, .int .i64 0], 10⟩).m wb = some ⟨[.int .i64 x1, .int .i64 x2, .int .i64 x3, .int .i64 x1, .slice A x4.length cap, str x5, str x6, str x8, .bool x7, .int .i64 0], 10⟩ := by rw [PH.new_m, if_pos rfl]
  have hibl : ib < (q14.new wb ⟨[.int .i64 x1, .int .i64 x2, .int .i64 x3, .int .i64 x1, .slice A x4.length cap, str x5, str x6, str x8, .bool x7, .int .i64 0], 10⟩).top := by simp only [PH.new_top]; omega
  generalize q14.new wb ⟨[.int .i64 x1, .int .i64 x2, .int .i64 x3, .int .i64 x1, .slice A x4.length cap, str x5, str x6, str x8, .bool x7, .int .i64 0], 10⟩ = q15 at *
  refine (inum_any w0 _ ib s hs 1099511627776 _ hi).mono ?_
  rintro v q16 ⟨rfl, hi, hc⟩
  obtain ⟨⟨x9, s9⟩, e9⟩ : ∃ p, p = numS 1099511627776 s.length s8 := ⟨_, rfl⟩
  rw [← e9] at hi
  rw [← e9]
  simp only at hi
  have hrv := hrv.chg hc (fun a ea e => (hnA a ea).1 e)
  have hm := hc.m _ _ hm hne
  have hw := hc.m _ _ hw hnw
  have hcc := hcc.trans (hc.mono (G := fun x => x = ib ∨ x = rb ∨ x = wb) fun x _ e => .inl e)
  have hibl := Nat.lt_of_lt_of_le hibl hc.top
  simp -dsimp -implicitDefEqProofs (disch := first | omega | assumption | (simp only [Option.isSome_some, Qt0]; done) | (simp only [UInt64.reduceToNat, UInt32.reduceToNat, UInt8.reduceToNat, List.length_cons, List.length_nil, List.length_append, Int.toNat_natCast] <;> omega) | fail) only [Nat.reduceLT, Nat.reduceLeDiff, Nat.reduceEqDiff, ↓reduceIte, Int.reduceLT, Int.reduceLE, Int.reduceToNat, Int.reduceEq, Int.reduceNe, Nat.reduceAdd, UInt8.reduceOfNat, UInt16.reduceOfNat, UInt32.reduceOfNat, UInt64.reduceOfNat, UInt64.reduceToNat, UInt32.reduceToNat, UInt16.reduceToNat, UInt8.reduceToNat, Int.reduceAdd, Int.reduceSub, Int.reduceMul, Nat.reduceMul, Qp0, Qp1, Ql0, Qe0, rd_M, rdM_some, hm, hw, List.set_cons_zero, List.set_cons_succ, List.take_zero, List.drop_succ_cons, List.drop_zero, List.drop_nil, List.nil_append, List.append_nil, List.take_succ_cons, ite_true, PH.new_new]
  have hcc := hcc.put (F := fun x => x = ib ∨ x = rb ∨ x = wb) (b := wb) (.inr (.inr rfl)) ⟨[.int .i64 x1, .int .i64 x2, .int .i64 x3, .int .i64 x1, .slice A x4.length cap, str x5, str x6, str x8, .bool x7, .int .i64 x9], 10⟩
  have hi := IS_put hi hw (show (10 : Nat) ≠ 3 by omega) ⟨[.int .i64 x1, .int .i64 x2, .int .i64 x3, .int .i64 x1, .slice A x4.length cap, str x5, str x6, str x8, .bool x7, .int .i64 x9], 10⟩
  have hrv := hrv.chg (F := (· = wb)) ((Chg.refl (· = wb) q16).one ⟨[.int .i64 x1, .int .i64 x2, .int .i64 x3, .int .i64 x1, .slice A x4.length cap, str x5, str x6, str x8, .bool x7, .int .i64 x9], 10⟩) (fun a ea e => (hnA a ea).2.2.1 e)
  have hm : (q16.new wb ⟨[.int .i64 x1, .int .i64 x2, .int .i64 x3, .int .i64 x1, .slice A x4.length cap, str x5, str x6, str x8, .bool x7, .int .i64 x9], 10⟩).m rb = some ⟨[.int .i64 0, .int .i64 0, .int .i64 0, .int .i64 0, .slice none 0 0, .string ⟨#[]⟩, .string ⟨#[]⟩, .string ⟨#[]⟩, .bool false, .int .i64 0], 10⟩ := by rw [PH.new_m, if_neg hrw]; exact hm
  have hw : (q16.new wb ⟨[.int .i64 x1, .int .i64 x2, .int .i64 x3, .int .i64 x1, .slice A x4.length cap, str x5, str x6, str x8, .bool x7, .int .i64 x9], 10⟩).m wb = some ⟨[.int .i64 x1, .int .i64 x2, .int .i64 x3, .int .i64 x1, .slice A x4.length cap, str x5, str x6, str x8, .bool x7, .int .i64 x9], 10⟩ := by rw [PH.new_m, if_pos rfl]
  have hibl : ib < (q16.new wb ⟨[.int .i64 x1, .int .i64 x2, .int .i64 x3, .int .i64 x1, .slice A x4.length cap, str x5, str x6, str x8, .bool x7, .int .i64 x9], 10⟩).top := by simp only [PH.new_top]; omega
  generalize q16.new wb ⟨[.int .i64 x1, .int .i64 x2, .int .i64 x3, .int .i64 x1, .slice A x4.length cap, str x5, str x6, str x8, .bool x7, .int .i64 x9], 10⟩ = q17 at *
  have hch : ChW 16 1099511627776 64 32 128 s.length s x1 x2 x3 x4 x5 x6 x7 x8 x9 s1 s2 s3 s4 s5 s6 s7 s8 s9 := ⟨e1, e2, e3, e4, e5, e6, e7, e8, e9⟩
  have hC0 : ∀ q, PH.Le q17 q → rdN w0 q ⟨wb, 0, none⟩ 10 = some [.int .i64 x1, .int .i64 x2, .int .i64 x3, .int .i64 x1, .slice A x4.length cap, str x5, str x6, str x8, .bool x7, .int .i64 x9] := fun q hl => by unfold rdN; simp only [hl.m _ _ hw]; rfl
  have hz := allOne_of [.int .i64 0, .int .i64 0, .int .i64 0, .int .i64 0, .slice none 0 0, .string ⟨#[]⟩, .string ⟨#[]⟩, .string ⟨#[]⟩, .bool false, .int .i64 0] rfl
  have ha2 := allOne_of [.int .i64 x1, .int .i64 x2, .int .i64 x3, .int .i64 x1, .slice A x4.length cap, str x5, str x6, str x8, .bool x7, .int .i64 x9] rfl
  have hleq : PH.Le h q17 := ⟨Nat.le_trans hle2.top hcc.top, fun x k e => hcc.m x k (hle2.m x k e) (fun e' => by have := h.lt _ _ e; rcases e' with e' | e' | e' <;> omega)⟩
  refine (end_any w0 q17 ib s _ hi).mono ?_
  rintro v q8 ⟨he, hl8⟩
  have hm8 := hl8.m _ _ hm
  have hC8 := hC0 q8 hl8
  have hle8 := hleq.trans hl8
  have hrv8 := hrv.more hl8
  rcases EE_told he with ⟨hok, rfl⟩ | ⟨hn, be, p, rfl, hbe⟩
  · have hs0 := hch.back hok
    have hR := rightW_any w0 q8 ⟨x1, x2, x3, x1, x4, x5, x6, x8, x7, x9⟩ A cap hrv8 hcap (by have := vecS_len e4; simp only; omega)
    unfold wtL at hR
    simp only at hR
    cases hr : rightW ⟨x1, x2, x3, x1, x4, x5, x6, x8, x7, x9⟩ with
    | true =>
      rw [hr] at hR
      have hR := Lib.hid hR
      simp -dsimp -implicitDefEqProofs (disch := first | omega | assumption | (simp only [Option.isSome_some, Qt0]; done) | (simp only [UInt64.reduceToNat, UInt32.reduceToNat, UInt8.reduceToNat, List.length_cons, List.length_nil, List.length_append, Int.toNat_natCast] <;> omega) | fail) only [Nat.reduceLT, Nat.reduceLeDiff, Nat.reduceEqDiff, ↓reduceIte, Int.reduceLT, Int.reduceLE, Int.reduceToNat, Int.reduceEq, Int.reduceNe, Nat.reduceAdd, UInt8.reduceOfNat, UInt16.reduceOfNat, UInt32.reduceOfNat, UInt64.reduceOfNat, UInt64.reduceToNat, UInt32.reduceToNat, UInt16.reduceToNat, UInt8.reduceToNat, Int.reduceAdd, Int.reduceSub, Int.reduceMul, Nat.reduceMul, Qp0, Qp1, Ql0, Qe0, hC8]
      refine hR.out.mono ?_
      rintro v hq ⟨rfl, hz⟩
      obtain rfl := hz.symm
      simp -dsimp -implicitDefEqProofs (disch := first | omega | assumption | (simp only [Option.isSome_some, Qt0]; done) | (simp only [UInt64.reduceToNat, UInt32.reduceToNat, UInt8.reduceToNat, List.length_cons, List.length_nil, List.length_append, Int.toNat_natCast] <;> omega) | fail) only [Nat.reduceLT, Nat.reduceLeDiff, Nat.reduceEqDiff, ↓reduceIte, Int.reduceLT, Int.reduceLE, Int.reduceToNat, Int.reduceEq, Int.reduceNe, Nat.reduceAdd, UInt8.reduceOfNat, UInt16.reduceOfNat, UInt32.reduceOfNat, UInt64.reduceOfNat, UInt64.reduceToNat, UInt32.reduceToNat, UInt16.reduceToNat, UInt8.reduceToNat, Int.reduceAdd, Int.reduceSub, Int.reduceMul, Nat.reduceMul, Qp0, Qp1, Ql0, Qe0, hC8, hm8, rdN_new, List.set_cons_zero, List.set_cons_succ, List.take_zero, List.drop_succ_cons, List.drop_zero, List.drop_nil, List.nil_append, List.append_nil, List.take_succ_cons, ite_true, PH.new_new]
      refine ⟨_, PH.Le.refl _, .inl ⟨⟨x1, x2, x3, x1, x4, x5, x6, x8, x7, x9⟩, A, cap, ⟨hr, hs0⟩, rfl, hcap, ?_, fun a ea => (hnA a ea).2.2.2⟩, hle8.new _ _ hrb⟩
      exact hrv8.chg (F := (· = rb)) ((Chg.refl _ _).one _) (fun a ea e => (hnA a ea).2.1 e)
    | false =>
      rw [hr] at hR
      have hR := Lib.hid hR
      simp -dsimp -implicitDefEqProofs (disch := first | omega | assumption | (simp only [Option.isSome_some, Qt0]; done) | (simp only [UInt64.reduceToNat, UInt32.reduceToNat, UInt8.reduceToNat, List.length_cons, List.length_nil, List.length_append, Int.toNat_natCast] <;> omega) | fail) only [Nat.reduceLT, Nat.reduceLeDiff, Nat.reduceEqDiff, ↓reduceIte, Int.reduceLT, Int.reduceLE, Int.reduceToNat, Int.reduceEq, Int.reduceNe, Nat.reduceAdd, UInt8.reduceOfNat, UInt16.reduceOfNat, UInt32.reduceOfNat, UInt64.reduceOfNat, UInt64.reduceToNat, UInt32.reduceToNat, UInt16.reduceToNat, UInt8.reduceToNat, Int.reduceAdd, Int.reduceSub, Int.reduceMul, Nat.reduceMul, Qp0, Qp1, Ql0, Qe0, hC8]
      refine hR.out.mono ?_
      rintro v hq ⟨rfl, hz⟩
      obtain rfl := hz.symm
      simp -dsimp -implicitDefEqProofs (disch := first | omega | assumption | (simp only [Option.isSome_some, Qt0]; done) | (simp only [UInt64.reduceToNat, UInt32.reduceToNat, UInt8.reduceToNat, List.length_cons, List.length_nil, List.length_append, Int.toNat_natCast] <;> omega) | fail) only [Nat.reduceLT, Nat.reduceLeDiff, Nat.reduceEqDiff, ↓reduceIte, Int.reduceLT, Int.reduceLE, Int.reduceToNat, Int.reduceEq, Int.reduceNe, Nat.reduceAdd, UInt8.reduceOfNat, UInt16.reduceOfNat, UInt32.reduceOfNat, UInt64.reduceOfNat, UInt64.reduceToNat, UInt32.reduceToNat, UInt16.reduceToNat, UInt8.reduceToNat, Int.reduceAdd, Int.reduceSub, Int.reduceMul, Nat.reduceMul, Qp0, Qp1, Ql0, Qe0]
      refine (at_any wireT _ _ _ w0 _).mono ?_
      rintro v q9 ⟨be, rfl, hbe, rfl⟩
      have hl9 := (PH.Le.refl q8).new be ⟨[str wireT, .int .i64 0, .iface 40 (.int .i64 2)], 3⟩ hbe
      have hmb : (q8.new be ⟨[str wireT, .int .i64 0, .iface 40 (.int .i64 2)], 3⟩).m be = some ⟨[str wireT, .int .i64 0, .iface 40 (.int .i64 2)], 3⟩ := by rw [PH.new_m, if_pos rfl]
      have hm9 := hl9.m _ _ hm8
      have hnb : be ≠ rb := by have := q8.lt _ _ hm8; omega
      generalize q8.new be ⟨[str wireT, .int .i64 0, .iface 40 (.int .i64 2)], 3⟩ = q9 at *
      unfold errV
      simp -dsimp -implicitDefEqProofs (disch := first | omega | assumption | (simp only [Option.isSome_some, Qt0]; done) | (simp only [UInt64.reduceToNat, UInt32.reduceToNat, UInt8.reduceToNat, List.length_cons, List.length_nil, List.length_append, Int.toNat_natCast] <;> omega) | fail) only [Nat.reduceLT, Nat.reduceLeDiff, Nat.reduceEqDiff, ↓reduceIte, Int.reduceLT, Int.reduceLE, Int.reduceToNat, Int.reduceEq, Int.reduceNe, Nat.reduceAdd, UInt8.reduceOfNat, UInt16.reduceOfNat, UInt32.reduceOfNat, UInt64.reduceOfNat, UInt64.reduceToNat, UInt32.reduceToNat, UInt16.reduceToNat, UInt8.reduceToNat, Int.reduceAdd, Int.reduceSub, Int.reduceMul, Nat.reduceMul, Qp0, Qp1, Ql0, Qe0, hm9, rdN_new, List.set_cons_zero, List.set_cons_succ, List.take_zero, List.drop_succ_cons, List.drop_zero, List.drop_nil, List.nil_append, List.append_nil, List.take_succ_cons, ite_true, PH.new_new]
      refine ⟨_, PH.Le.refl _, .inr ⟨fun d hd => ?_, _, .wrap wireT 0 (.code 2), rfl, ⟨be, _, rfl, by rw [PH.new_m, if_neg hnb]; exact hmb, rfl⟩, rfl⟩, (hle8.trans hl9).new _ _ hrb⟩
      obtain ⟨h5, _⟩ := hch.fwd (by omega) (by omega) (by omega) (by omega) (by omega) hd
      rw [h5] at hd
      rw [hd.1] at hr; cases hr
  · unfold errV
    have hnb : be ≠ rb := fun e => by
      rw [e, hm8] at hbe
      injection hbe with hbe
      injection hbe with _ hbe
      omega
    simp -dsimp -implicitDefEqProofs (disch := first | omega | assumption | (simp only [Option.isSome_some, Qt0]; done) | (simp only [UInt64.reduceToNat, UInt32.reduceToNat, UInt8.reduceToNat, List.length_cons, List.length_nil, List.length_append, Int.toNat_natCast] <;> omega) | fail) only [Nat.reduceLT, Nat.reduceLeDiff, Nat.reduceEqDiff, ↓reduceIte, Int.reduceLT, Int.reduceLE, Int.reduceToNat, Int.reduceEq, Int.reduceNe, Nat.reduceAdd, UInt8.reduceOfNat, UInt16.reduceOfNat, UInt32.reduceOfNat, UInt64.reduceOfNat, UInt64.reduceToNat, UInt32.reduceToNat, UInt16.reduceToNat, UInt8.reduceToNat, Int.reduceAdd, Int.reduceSub, Int.reduceMul, Nat.reduceMul, Qp0, Qp1, Ql0, Qe0, hm8, rdN_new, List.set_cons_zero, List.set_cons_succ, List.take_zero, List.drop_succ_cons, List.drop_zero, List.drop_nil, List.nil_append, List.append_nil, List.take_succ_cons, ite_true, PH.new_new]
    refine ⟨_, PH.Le.refl _, .inr ⟨fun d hd => ?_, _, .wrap wireT p (.code 2), rfl, ⟨be, _, rfl, by rw [PH.new_m, if_neg hnb]; exact hbe, rfl⟩, rfl⟩, hle8.new _ _ hrb⟩
    exact hn (hch.fwd (by omega) (by omega) (by omega) (by omega) (by omega) hd).2
end Go.Proofs.Ytdhgmifgjaedbaa

