/- Parts Ta9, TaA, TaB, TaC, TaD, TaF, joined. No condition. -/
import Derived.Test.YtdhgmifgjaedbaaM10C
/- A message's bytes; walks: bad, epochs. No condition. -/
namespace Go.Proofs.Ytdhgmifgjaedbaa
set_option linter.unusedVariables false
set_option linter.unusedSimpArgs false
open Go.RowKit Px Wr
def talkT : List UInt8 := [116, 97, 108, 107]
set_option maxRecDepth 20000 in
theorem tbad_any (k : Int) (w0 : World) (h : PH) : PCalls Try.prog w0 18 [.int .i64 k] h fun r h' => (∃ be, r = errV be ∧ h'.m be = some ⟨[str talkT, .int .i64 0, codeV k], 3⟩) ∧ PH.Le h h' := by
  refine PCalls_body Try.func18 (by kernel_rfl) rfl _ Try.ntmps18 (by kernel_rfl) (by kernel_rfl) _ Try.results18 ?_
  simp -dsimp -implicitDefEqProofs (disch := first | omega | assumption | (simp only [Option.isSome_some, Qt0]; done) | (simp only [UInt64.reduceToNat, UInt32.reduceToNat, UInt8.reduceToNat, List.length_cons, List.length_nil, List.length_append, Int.toNat_natCast] <;> omega) | fail) only [Nat.reduceLT, Nat.reduceLeDiff, Nat.reduceEqDiff, ↓reduceIte, Int.reduceLT, Int.reduceLE, Int.reduceToNat, Int.reduceEq, Int.reduceNe, Nat.reduceAdd, UInt8.reduceOfNat, UInt16.reduceOfNat, UInt32.reduceOfNat, UInt64.reduceOfNat, UInt64.reduceToNat, UInt32.reduceToNat, UInt16.reduceToNat, UInt8.reduceToNat, Int.reduceAdd, Int.reduceSub, Int.reduceMul, Nat.reduceMul, Qp0, Qp1, Ql0, Qe0]
  refine (at_any talkT _ _ _ w0 _).mono ?_
  rintro v hq ⟨be, rfl, hbe, rfl⟩
  unfold errV
  simp -dsimp -implicitDefEqProofs (disch := first | omega | assumption | (simp only [Option.isSome_some, Qt0]; done) | (simp only [UInt64.reduceToNat, UInt32.reduceToNat, UInt8.reduceToNat, List.length_cons, List.length_nil, List.length_append, Int.toNat_natCast] <;> omega) | fail) only [Nat.reduceLT, Nat.reduceLeDiff, Nat.reduceEqDiff, ↓reduceIte, Int.reduceLT, Int.reduceLE, Int.reduceToNat, Int.reduceEq, Int.reduceNe, Nat.reduceAdd, UInt8.reduceOfNat, UInt16.reduceOfNat, UInt32.reduceOfNat, UInt64.reduceOfNat, UInt64.reduceToNat, UInt32.reduceToNat, UInt16.reduceToNat, UInt8.reduceToNat, Int.reduceAdd, Int.reduceSub, Int.reduceMul, Nat.reduceMul, Qp0, Qp1, Ql0, Qe0]
  exact ⟨_, PH.Le.refl _, ⟨be, by first | rfl | trivial, by rw [PH.new_m, if_pos rfl]; rfl⟩, (PH.Le.refl _).new _ _ hbe⟩
theorem flat_len_K {α : Type} {g : α → List UInt8} {K : Nat} : ∀ (L : List α), (∀ y ∈ L, (g y).length ≤ K) → (L.flatMap g).length ≤ L.length * K
  | [], _ => by simp
  | a :: L, h => by
    have h1 := flat_len_K L fun y hy => h y (List.mem_cons_of_mem _ hy)
    have h2 := h a (List.mem_cons_self ..)
    rw [List.flatMap_cons, List.length_append, List.length_cons, Nat.add_mul, Nat.one_mul]
    omega
def epB (p : Ep) : List UInt8 := textB p.u ++ numB p.n.toNat
def epsB (L : List Ep) : List UInt8 := numB L.length ++ L.flatMap epB
def wsB (L : List Wt) : List UInt8 := numB L.length ++ L.flatMap fun y => textB (bytesW y)
def bytesM (m : Ms) : List UInt8 := numB m.k.toNat ++
  (if m.k = 1 then wsB m.w else if m.k = 2 then vecB m.v ++ numB m.c.toNat else if m.k = 3 then numB m.t.toNat else epsB m.e ++ (numB m.x.toNat ++ numB m.t.toNat))
theorem epB_len {p : Ep} (h : rightEp p = true) : (epB p).length ≤ 50 := by
  obtain ⟨h1, h2, h3, h4⟩ := rightEp_iff (u := p.u) (n := p.n) |>.1 h
  unfold epB
  rw [List.length_append]
  have := textB_len (y := p.u) (k := 32) h2 (by omega)
  have := numB_len9 (n := p.n.toNat) (by omega)
  omega
section
variable (h0 : PH) (ob : Nat) (w0 : World) (h : PH)
set_option maxRecDepth 20000 in
set_option maxHeartbeats 4000000 in
theorem epochs_any (s : List UInt8) (hs : OS h0 h ob (s, none)) (hsl : s.length ≤ 1000) (C : Option Addr) (c : Nat) (L : List Ep) (hr : Rv w0 h0 C (L.flatMap epL)) (hn : L.length ≤ c) (hE : rightE L = true) (hut : w0.heap.size ≤ h0.top) :
    PCalls Try.prog w0 23 [.pointer (some ⟨ob, 0, none⟩), .slice C L.length c] h fun r h' => OS h0 h' ob (s ++ epsB L, none) := by
  obtain ⟨p1, p2, p3⟩ := rightE_parts hE
  refine PCalls_body Try.func23 (by kernel_rfl) rfl _ Try.ntmps23 (by kernel_rfl) (by kernel_rfl) _ Try.results23 ?_
  have hl9 := numB_len9 (n := L.length) (by omega)
  simp -dsimp -implicitDefEqProofs (disch := first | omega | assumption | (simp only [Option.isSome_some, Qt0]; done) | (simp only [UInt64.reduceToNat, UInt32.reduceToNat, UInt8.reduceToNat, List.length_cons, List.length_nil, List.length_append, Int.toNat_natCast] <;> omega) | fail) only [Nat.reduceLT, Nat.reduceLeDiff, Nat.reduceEqDiff, ↓reduceIte, Int.reduceLT, Int.reduceLE, Int.reduceToNat, Int.reduceEq, Int.reduceNe, Nat.reduceAdd, UInt8.reduceOfNat, UInt16.reduceOfNat, UInt32.reduceOfNat, UInt64.reduceOfNat, UInt64.reduceToNat, UInt32.reduceToNat, UInt16.reduceToNat, UInt8.reduceToNat, Int.reduceAdd, Int.reduceSub, Int.reduceMul, Nat.reduceMul, Qp0, Qp1, Ql0, Qe0]
  refine (num_any h0 ob _ w0 _ hs L.length (by omega)).mono ?_
  intro r h1 hs1
  rw [numM_ok s L.length (by omega) (by omega) (by omega), Int.toNat_natCast] at hs1
  simp -dsimp -implicitDefEqProofs (disch := first | omega | assumption | (simp only [Option.isSome_some, Qt0]; done) | (simp only [UInt64.reduceToNat, UInt32.reduceToNat, UInt8.reduceToNat, List.length_cons, List.length_nil, List.length_append, Int.toNat_natCast] <;> omega) | fail) only [Nat.reduceLT, Nat.reduceLeDiff, Nat.reduceEqDiff, ↓reduceIte, Int.reduceLT, Int.reduceLE, Int.reduceToNat, Int.reduceEq, Int.reduceNe, Nat.reduceAdd, UInt8.reduceOfNat, UInt16.reduceOfNat, UInt32.reduceOfNat, UInt64.reduceOfNat, UInt64.reduceToNat, UInt32.reduceToNat, UInt16.reduceToNat, UInt8.reduceToNat, Int.reduceAdd, Int.reduceSub, Int.reduceMul, Nat.reduceMul, Qp0, Qp1, Ql0, Qe0]
  refine PW_loopL (fun n f h' => ∃ i : Nat, n + i = L.length ∧ f 0 = some (.pointer (some ⟨ob, 0, none⟩)) ∧ f 12 = some (.slice C L.length c) ∧ f 13 = some (.int .i64 L.length) ∧ f 14 = some (.int .i64 i) ∧ OS h0 h' ob (s ++ (numB L.length ++ (L.take i).flatMap epB), none)) (by kernel_rfl) L.length ⟨0, by omega, ?_, ?_, ?_, ?_, by simpa using hs1⟩ ?_
  · simp -dsimp -implicitDefEqProofs (disch := first | omega | assumption | (simp only [Option.isSome_some, Qt0]; done) | (simp only [UInt64.reduceToNat, UInt32.reduceToNat, UInt8.reduceToNat, List.length_cons, List.length_nil, List.length_append, Int.toNat_natCast] <;> omega) | fail) only [Nat.reduceLT, Nat.reduceLeDiff, Nat.reduceEqDiff, ↓reduceIte, Int.reduceLT, Int.reduceLE, Int.reduceToNat, Int.reduceEq, Int.reduceNe, Nat.reduceAdd, UInt8.reduceOfNat, UInt16.reduceOfNat, UInt32.reduceOfNat, UInt64.reduceOfNat, UInt64.reduceToNat, UInt32.reduceToNat, UInt16.reduceToNat, UInt8.reduceToNat, Int.reduceAdd, Int.reduceSub, Int.reduceMul, Nat.reduceMul, Qp0, Qp1, Ql0, Qe0]
  · simp -dsimp -implicitDefEqProofs (disch := first | omega | assumption | (simp only [Option.isSome_some, Qt0]; done) | (simp only [UInt64.reduceToNat, UInt32.reduceToNat, UInt8.reduceToNat, List.length_cons, List.length_nil, List.length_append, Int.toNat_natCast] <;> omega) | fail) only [Nat.reduceLT, Nat.reduceLeDiff, Nat.reduceEqDiff, ↓reduceIte, Int.reduceLT, Int.reduceLE, Int.reduceToNat, Int.reduceEq, Int.reduceNe, Nat.reduceAdd, UInt8.reduceOfNat, UInt16.reduceOfNat, UInt32.reduceOfNat, UInt64.reduceOfNat, UInt64.reduceToNat, UInt32.reduceToNat, UInt16.reduceToNat, UInt8.reduceToNat, Int.reduceAdd, Int.reduceSub, Int.reduceMul, Nat.reduceMul, Qp0, Qp1, Ql0, Qe0]
  · simp -dsimp -implicitDefEqProofs (disch := first | omega | assumption | (simp only [Option.isSome_some, Qt0]; done) | (simp only [UInt64.reduceToNat, UInt32.reduceToNat, UInt8.reduceToNat, List.length_cons, List.length_nil, List.length_append, Int.toNat_natCast] <;> omega) | fail) only [Nat.reduceLT, Nat.reduceLeDiff, Nat.reduceEqDiff, ↓reduceIte, Int.reduceLT, Int.reduceLE, Int.reduceToNat, Int.reduceEq, Int.reduceNe, Nat.reduceAdd, UInt8.reduceOfNat, UInt16.reduceOfNat, UInt32.reduceOfNat, UInt64.reduceOfNat, UInt64.reduceToNat, UInt32.reduceToNat, UInt16.reduceToNat, UInt8.reduceToNat, Int.reduceAdd, Int.reduceSub, Int.reduceMul, Nat.reduceMul, Qp0, Qp1, Ql0, Qe0]
  · simp -dsimp -implicitDefEqProofs (disch := first | omega | assumption | (simp only [Option.isSome_some, Qt0]; done) | (simp only [UInt64.reduceToNat, UInt32.reduceToNat, UInt8.reduceToNat, List.length_cons, List.length_nil, List.length_append, Int.toNat_natCast] <;> omega) | fail) only [Nat.reduceLT, Nat.reduceLeDiff, Nat.reduceEqDiff, ↓reduceIte, Int.reduceLT, Int.reduceLE, Int.reduceToNat, Int.reduceEq, Int.reduceNe, Nat.reduceAdd, UInt8.reduceOfNat, UInt16.reduceOfNat, UInt32.reduceOfNat, UInt64.reduceOfNat, UInt64.reduceToNat, UInt32.reduceToNat, UInt16.reduceToNat, UInt8.reduceToNat, Int.reduceAdd, Int.reduceSub, Int.reduceMul, Nat.reduceMul, Qp0, Qp1, Ql0, Qe0]
    try rfl
  rintro n f h' ⟨i, hni, f0, f12, f13, f14, hs'⟩ hlow'
  by_cases hi : i < L.length
  rotate_left
  · have e2 : decide ((i : Int) < (L.length : Int)) = false := decide_eq_false (by omega)
    rw [List.take_of_length_le (by omega)] at hs'
    simp -dsimp -implicitDefEqProofs (disch := first | omega | assumption | (simp only [Option.isSome_some, Qt0]; done) | (simp only [UInt64.reduceToNat, UInt32.reduceToNat, UInt8.reduceToNat, List.length_cons, List.length_nil, List.length_append, Int.toNat_natCast] <;> omega) | fail) only [Nat.reduceLT, Nat.reduceLeDiff, Nat.reduceEqDiff, ↓reduceIte, Int.reduceLT, Int.reduceLE, Int.reduceToNat, Int.reduceEq, Int.reduceNe, Nat.reduceAdd, UInt8.reduceOfNat, UInt16.reduceOfNat, UInt32.reduceOfNat, UInt64.reduceOfNat, UInt64.reduceToNat, UInt32.reduceToNat, UInt16.reduceToNat, UInt8.reduceToNat, Int.reduceAdd, Int.reduceSub, Int.reduceMul, Nat.reduceMul, Qp0, Qp1, Ql0, Qe0, f0, f12, f13, f14, e2]
    exact ⟨_, PH.Le.refl _, hs'⟩
  have e2 : decide ((i : Int) < (L.length : Int)) = true := decide_eq_true (by omega)
  obtain ⟨⟨u, m⟩, hx⟩ : ∃ x, L[i]? = some x := ⟨_, List.getElem?_eq_getElem hi⟩
  have hxr := rightEp_iff.1 (p2 _ (List.mem_of_getElem? hx))
  obtain ⟨b, o, rfl⟩ := hr.addr_ epL_length (by omega) hx
  have hT : (i : Int).toNat = i := Int.toNat_natCast i
  have hrd := (hr.more hs'.le).chunk epL_length (by omega) hlow' hx
  have ha : allOne (epL ⟨u, m⟩) := epL_one _
  unfold epL at hrd ha
  simp only at hrd ha
  simp -dsimp -implicitDefEqProofs (disch := first | omega | assumption | (simp only [Option.isSome_some, Qt0]; done) | (simp only [UInt64.reduceToNat, UInt32.reduceToNat, UInt8.reduceToNat, List.length_cons, List.length_nil, List.length_append, Int.toNat_natCast] <;> omega) | fail) only [Nat.reduceLT, Nat.reduceLeDiff, Nat.reduceEqDiff, ↓reduceIte, Int.reduceLT, Int.reduceLE, Int.reduceToNat, Int.reduceEq, Int.reduceNe, Nat.reduceAdd, UInt8.reduceOfNat, UInt16.reduceOfNat, UInt32.reduceOfNat, UInt64.reduceOfNat, UInt64.reduceToNat, UInt32.reduceToNat, UInt16.reduceToNat, UInt8.reduceToNat, Int.reduceAdd, Int.reduceSub, Int.reduceMul, Nat.reduceMul, Qp0, Qp1, Ql0, Qe0, f0, f12, f13, f14, e2, hrd]
  refine fun xb hxb => ?_
  have hxb' : h'.top ≤ xb := hxb
  obtain ⟨h1, hh1⟩ : ∃ h1, h'.new xb ⟨[str u, .int .i64 m], 2⟩ = h1 := ⟨_, rfl⟩
  have hle1 : PH.Le h' h1 := by rw [← hh1]; exact (PH.Le.refl h').new _ _ hxb
  have hm1 : h1.m xb = some ⟨[str u, .int .i64 m], 2⟩ := by rw [← hh1, PH.new_m, if_pos rfl]
  have hs2 := hs'.newB hxb' ⟨[str u, .int .i64 m], 2⟩
  rw [hh1] at hs2
  have hbx : (h0.new xb ⟨[str u, .int .i64 m], 2⟩).m xb = some ⟨[str u, .int .i64 m], 2⟩ := by rw [PH.new_m, if_pos rfl]
  have hb0 : PH.Le h0 (h0.new xb ⟨[str u, .int .i64 m], 2⟩) := (PH.Le.refl h0).new _ _ (by have := hs'.le.top; omega)
  generalize h0.new xb ⟨[str u, .int .i64 m], 2⟩ = hb at *
  have hll : (s ++ (numB L.length ++ (L.take i).flatMap epB)).length ≤ 9000 := by
    have := flat_len_K (g := epB) (K := 50) (L.take i) fun y hy => epB_len (p2 y (List.mem_of_mem_take hy))
    have h9 : (L.take i).length ≤ 64 := by rw [List.length_take]; omega
    have : (L.take i).length * 50 ≤ 64 * 50 := Nat.mul_le_mul_right _ h9
    simp only [List.length_append]; omega
  simp -dsimp -implicitDefEqProofs (disch := first | omega | assumption | (simp only [Option.isSome_some, Qt0]; done) | (simp only [UInt64.reduceToNat, UInt32.reduceToNat, UInt8.reduceToNat, List.length_cons, List.length_nil, List.length_append, Int.toNat_natCast] <;> omega) | fail) only [Nat.reduceLT, Nat.reduceLeDiff, Nat.reduceEqDiff, ↓reduceIte, Int.reduceLT, Int.reduceLE, Int.reduceToNat, Int.reduceEq, Int.reduceNe, Nat.reduceAdd, UInt8.reduceOfNat, UInt16.reduceOfNat, UInt32.reduceOfNat, UInt64.reduceOfNat, UInt64.reduceToNat, UInt32.reduceToNat, UInt16.reduceToNat, UInt8.reduceToNat, Int.reduceAdd, Int.reduceSub, Int.reduceMul, Nat.reduceMul, Qp0, Qp1, Ql0, Qe0, f0, f12, f13, f14, List.set_cons_zero, List.set_cons_succ, List.take_zero, List.drop_succ_cons, List.drop_zero, List.drop_nil, List.nil_append, List.append_nil, List.take_succ_cons, ite_true, PH.new_new, hh1]
  refine PW_plan [0, 1, 2, 3, 4, 5] hb (by kernel_rfl) (by decide +kernel) (by kernel_rfl) (by kernel_rfl) (by kernel_rfl) (fun c f h hq => by simp only [thenC_panic, thenK_panic, inBlk_panic, thenN_panic, vcRet_panic] at hq) hs2.le.sub ?_
  simp -dsimp -implicitDefEqProofs (disch := first | omega | assumption | (simp only [Option.isSome_some, Qt0]; done) | (simp only [UInt64.reduceToNat, UInt32.reduceToNat, UInt8.reduceToNat, List.length_cons, List.length_nil, List.length_append, Int.toNat_natCast] <;> omega) | fail) only [Nat.reduceLT, Nat.reduceLeDiff, Nat.reduceEqDiff, ↓reduceIte, Int.reduceLT, Int.reduceLE, Int.reduceToNat, Int.reduceEq, Int.reduceNe, Nat.reduceAdd, UInt8.reduceOfNat, UInt16.reduceOfNat, UInt32.reduceOfNat, UInt64.reduceOfNat, UInt64.reduceToNat, UInt32.reduceToNat, UInt16.reduceToNat, UInt8.reduceToNat, Int.reduceAdd, Int.reduceSub, Int.reduceMul, Nat.reduceMul, Qp0, Qp1, Ql0, Qe0, f0, f12, f13, f14, rd_M, rdM_some, hbx]
  refine (wtext_any hb ob _ w0 _ hs2 u (by omega)).mono ?_
  intro r h3 hs3
  rw [textM_ok _ u (by omega) (by omega)] at hs3
  refine ⟨hs3.le.sub, ?_⟩
  simp -dsimp -implicitDefEqProofs (disch := first | omega | assumption | (simp only [Option.isSome_some, Qt0]; done) | (simp only [UInt64.reduceToNat, UInt32.reduceToNat, UInt8.reduceToNat, List.length_cons, List.length_nil, List.length_append, Int.toNat_natCast] <;> omega) | fail) only [Nat.reduceLT, Nat.reduceLeDiff, Nat.reduceEqDiff, ↓reduceIte, Int.reduceLT, Int.reduceLE, Int.reduceToNat, Int.reduceEq, Int.reduceNe, Nat.reduceAdd, UInt8.reduceOfNat, UInt16.reduceOfNat, UInt32.reduceOfNat, UInt64.reduceOfNat, UInt64.reduceToNat, UInt32.reduceToNat, UInt16.reduceToNat, UInt8.reduceToNat, Int.reduceAdd, Int.reduceSub, Int.reduceMul, Nat.reduceMul, Qp0, Qp1, Ql0, Qe0, f0, f12, f13, f14]
  refine PW_plan [0, 1, 2, 3, 4, 5] hb (by kernel_rfl) (by decide +kernel) (by kernel_rfl) (by kernel_rfl) (by kernel_rfl) (fun c f h hq => by simp only [thenC_panic, thenK_panic, inBlk_panic, thenN_panic, vcRet_panic] at hq) hs3.le.sub ?_
  simp -dsimp -implicitDefEqProofs (disch := first | omega | assumption | (simp only [Option.isSome_some, Qt0]; done) | (simp only [UInt64.reduceToNat, UInt32.reduceToNat, UInt8.reduceToNat, List.length_cons, List.length_nil, List.length_append, Int.toNat_natCast] <;> omega) | fail) only [Nat.reduceLT, Nat.reduceLeDiff, Nat.reduceEqDiff, ↓reduceIte, Int.reduceLT, Int.reduceLE, Int.reduceToNat, Int.reduceEq, Int.reduceNe, Nat.reduceAdd, UInt8.reduceOfNat, UInt16.reduceOfNat, UInt32.reduceOfNat, UInt64.reduceOfNat, UInt64.reduceToNat, UInt32.reduceToNat, UInt16.reduceToNat, UInt8.reduceToNat, Int.reduceAdd, Int.reduceSub, Int.reduceMul, Nat.reduceMul, Qp0, Qp1, Ql0, Qe0, f0, f12, f13, f14, rd_M, rdM_some, hbx]
  refine (num_any hb ob _ w0 _ hs3 m (by omega)).mono ?_
  intro r h4 hs4
  have htl := textB_len (y := u) (k := 32) (by omega) (by omega)
  rw [numM_ok _ m (by omega) (by omega) (by rw [List.length_append]; omega)] at hs4
  refine ⟨hs4.le.sub, ?_⟩
  have hcat : s ++ (numB L.length ++ (L.take i).flatMap epB) ++ textB u ++ numB m.toNat = s ++ (numB L.length ++ (L.take (i + 1)).flatMap epB) := by
    rw [List.take_add_one, hx]
    simp [epB, List.flatMap_append]
  rw [hcat] at hs4
  simp -dsimp -implicitDefEqProofs (disch := first | omega | assumption | (simp only [Option.isSome_some, Qt0]; done) | (simp only [UInt64.reduceToNat, UInt32.reduceToNat, UInt8.reduceToNat, List.length_cons, List.length_nil, List.length_append, Int.toNat_natCast] <;> omega) | fail) only [Nat.reduceLT, Nat.reduceLeDiff, Nat.reduceEqDiff, ↓reduceIte, Int.reduceLT, Int.reduceLE, Int.reduceToNat, Int.reduceEq, Int.reduceNe, Nat.reduceAdd, UInt8.reduceOfNat, UInt16.reduceOfNat, UInt32.reduceOfNat, UInt64.reduceOfNat, UInt64.reduceToNat, UInt32.reduceToNat, UInt16.reduceToNat, UInt8.reduceToNat, Int.reduceAdd, Int.reduceSub, Int.reduceMul, Nat.reduceMul, Qp0, Qp1, Ql0, Qe0, f0, f12, f13, f14]
  exact ⟨n - 1, _, by omega, PH.Le.refl _, i + 1, by omega, by trivial, by trivial, by trivial, by simp, hs4.weak hb0⟩
end
end Go.Proofs.Ytdhgmifgjaedbaa


/- Walk: talk.Encode. No condition. -/
namespace Go.Proofs.Ytdhgmifgjaedbaa
set_option linter.unusedVariables false
set_option linter.unusedSimpArgs false
open Go.RowKit Px Wr
theorem rightM_cases {k c t x : Int} {w : List Wt} {v : List Int} {e : List Ep} (h : rightM ⟨k, w, v, c, t, e, x⟩ = true) :
    (k = 1 ∧ rightWs w = true ∧ v = [] ∧ c = 0 ∧ t = 0 ∧ e = [] ∧ x = 0) ∨ (k = 2 ∧ w = [] ∧ trim v 1099511627776 = true ∧ isN c = true ∧ t = 0 ∧ e = [] ∧ x = 0) ∨
    (k = 3 ∧ w = [] ∧ v = [] ∧ c = 0 ∧ isN t = true ∧ e = [] ∧ x = 0) ∨ (k = 4 ∧ w = [] ∧ v = [] ∧ c = 0 ∧ isN t = true ∧ rightE e = true ∧ isN x = true) := by
  unfold rightM at h
  simp only at h
  split at h
  · rename_i hk
    simp only [Bool.and_eq_true, decide_eq_true_eq] at h
    exact .inl ⟨hk, h.1.1.1.1.1, h.1.1.1.1.2, h.1.1.1.2, h.1.1.2, h.1.2, h.2⟩
  split at h
  · rename_i hk
    simp only [Bool.and_eq_true, decide_eq_true_eq] at h
    exact .inr (.inl ⟨hk, h.1.1.1.1.1, h.1.1.1.1.2, h.1.1.1.2, h.1.1.2, h.1.2, h.2⟩)
  split at h
  · rename_i hk
    simp only [Bool.and_eq_true, decide_eq_true_eq] at h
    exact .inr (.inr (.inl ⟨hk, h.1.1.1.1.1, h.1.1.1.1.2, h.1.1.1.2, h.1.1.2, h.1.2, h.2⟩))
  split at h
  · rename_i hk
    simp only [Bool.and_eq_true, decide_eq_true_eq] at h
    exact .inr (.inr (.inr ⟨hk, h.1.1.1.1.1, h.1.1.1.1.2, h.1.1.1.2, h.1.1.2, h.1.2, h.2⟩))
  · cases h
theorem rightWs_parts {w : List Wt} (h : rightWs w = true) : 1 ≤ w.length ∧ w.length ≤ 8 ∧ (∀ x ∈ w, rightW x = true) ∧ ∀ x ∈ w, some x.r = w.head?.map (·.r) := by
  unfold rightWs at h
  simp only [Bool.and_eq_true, decide_eq_true_eq, List.all_eq_true] at h
  exact ⟨h.1.1, h.1.2, fun x hx => (h.2 x hx).1, fun x hx => (h.2 x hx).2⟩
def ENM (h : PH) (ok : Bool) (b : List UInt8) (v : Value) : Prop := if ok = true then v = .tuple #[str b, .nilIface] else ∃ ev, v = .tuple #[str [], ev] ∧ EV h (.wrap talkT 0 (.code 1)) ev
set_option maxRecDepth 20000 in
set_option maxHeartbeats 8000000 in
theorem enc23_any (w0 : World) (h : PH) (m : Ms) (p : Mp7) (hR : MsR w0 h m p) (hF : Fits m) : PCalls Try.prog w0 9 [.agg (msL m p).toArray] h fun r h' => ENM h' (rightM m) (bytesM m) r ∧ PH.Le h h' := by
  refine PCalls_upL fun q0 hlq hlow hut => ?_
  refine PCalls_body Try.func9 (by kernel_rfl) rfl _ Try.ntmps9 (by kernel_rfl) (by kernel_rfl) _ Try.results9 ?_
  have hR := hR.more hlq
  obtain ⟨k, w, v, c, t, e, x⟩ := m
  obtain ⟨wp, A, B, C, ca, cb, cc⟩ := p
  unfold msL
  simp only
  simp -dsimp -implicitDefEqProofs (disch := first | omega | assumption | (simp only [Option.isSome_some, Qt0]; done) | (simp only [UInt64.reduceToNat, UInt32.reduceToNat, UInt8.reduceToNat, List.length_cons, List.length_nil, List.length_append, Int.toNat_natCast] <;> omega) | fail) only [Nat.reduceLT, Nat.reduceLeDiff, Nat.reduceEqDiff, ↓reduceIte, Int.reduceLT, Int.reduceLE, Int.reduceToNat, Int.reduceEq, Int.reduceNe, Nat.reduceAdd, UInt8.reduceOfNat, UInt16.reduceOfNat, UInt32.reduceOfNat, UInt64.reduceOfNat, UInt64.reduceToNat, UInt32.reduceToNat, UInt16.reduceToNat, UInt8.reduceToNat, Int.reduceAdd, Int.reduceSub, Int.reduceMul, Nat.reduceMul, Qp0, Qp1, Ql0, Qe0]
  refine fun mb hmb => ?_
  have hmbt : q0.top ≤ mb := hmb
  have hle0 := (PH.Le.refl q0).new mb ⟨[.int .i64 k, .slice A w.length ca, .slice B v.length cb, .int .i64 c, .int .i64 t, .slice C e.length cc, .int .i64 x], 7⟩ hmb
  obtain ⟨q, hq⟩ : ∃ q, q0.new mb ⟨[.int .i64 k, .slice A w.length ca, .slice B v.length cb, .int .i64 c, .int .i64 t, .slice C e.length cc, .int .i64 x], 7⟩ = q := ⟨_, rfl⟩
  have hm : q.m mb = some ⟨[.int .i64 k, .slice A w.length ca, .slice B v.length cb, .int .i64 c, .int .i64 t, .slice C e.length cc, .int .i64 x], 7⟩ := by rw [← hq, PH.new_m, if_pos rfl]
  rw [hq] at hle0
  have hle := hlq.trans hle0
  have hs1 : rdN w0 q ⟨mb, 0, none⟩ 7 = some [.int .i64 k, .slice A w.length ca, .slice B v.length cb, .int .i64 c, .int .i64 t, .slice C e.length cc, .int .i64 x] := by unfold rdN; simp only [hm]; rfl
  have hRt := right_any w0 q _ _ (hR.more hle0) hF
  unfold msL at hRt
  simp only at hRt
  simp -dsimp -implicitDefEqProofs (disch := first | omega | assumption | (simp only [Option.isSome_some, Qt0]; done) | (simp only [UInt64.reduceToNat, UInt32.reduceToNat, UInt8.reduceToNat, List.length_cons, List.length_nil, List.length_append, Int.toNat_natCast] <;> omega) | fail) only [Nat.reduceLT, Nat.reduceLeDiff, Nat.reduceEqDiff, ↓reduceIte, Int.reduceLT, Int.reduceLE, Int.reduceToNat, Int.reduceEq, Int.reduceNe, Nat.reduceAdd, UInt8.reduceOfNat, UInt16.reduceOfNat, UInt32.reduceOfNat, UInt64.reduceOfNat, UInt64.reduceToNat, UInt32.reduceToNat, UInt16.reduceToNat, UInt8.reduceToNat, Int.reduceAdd, Int.reduceSub, Int.reduceMul, Nat.reduceMul, Qp0, Qp1, Ql0, Qe0, hq, hs1]
  refine hRt.mono ?_
  rintro r q2 ⟨rfl, hl2⟩
  have hR2 := hR.more (hle0.trans hl2)
  obtain ⟨g1, g2, g3, g4, g5, g6, g7, g8⟩ := hR2
  obtain ⟨F1, F2, F3, F4, F5⟩ := hF
  simp only at g1 g2 g3 g4 g5 g6 g7 g8 F1 F2 F3 F4 F5
  have hm2 := hl2.m _ _ hm
  have hle2 := hle.trans hl2
  have hut2 : w0.heap.size ≤ q2.top := by have := hle0.top; have := hl2.top; omega
  clear hRt hm hs1 hq
  cases hb : rightM ⟨k, w, v, c, t, e, x⟩ with
  | false =>
    simp -dsimp -implicitDefEqProofs (disch := first | omega | assumption | (simp only [Option.isSome_some, Qt0]; done) | (simp only [UInt64.reduceToNat, UInt32.reduceToNat, UInt8.reduceToNat, List.length_cons, List.length_nil, List.length_append, Int.toNat_natCast] <;> omega) | fail) only [Nat.reduceLT, Nat.reduceLeDiff, Nat.reduceEqDiff, ↓reduceIte, Int.reduceLT, Int.reduceLE, Int.reduceToNat, Int.reduceEq, Int.reduceNe, Nat.reduceAdd, UInt8.reduceOfNat, UInt16.reduceOfNat, UInt32.reduceOfNat, UInt64.reduceOfNat, UInt64.reduceToNat, UInt32.reduceToNat, UInt16.reduceToNat, UInt8.reduceToNat, Int.reduceAdd, Int.reduceSub, Int.reduceMul, Nat.reduceMul, Qp0, Qp1, Ql0, Qe0]
    refine (tbad_any 1 w0 _).mono ?_
    rintro z q3 ⟨⟨be, rfl, hbm⟩, hl3⟩
    unfold errV
    simp -dsimp -implicitDefEqProofs (disch := first | omega | assumption | (simp only [Option.isSome_some, Qt0]; done) | (simp only [UInt64.reduceToNat, UInt32.reduceToNat, UInt8.reduceToNat, List.length_cons, List.length_nil, List.length_append, Int.toNat_natCast] <;> omega) | fail) only [Nat.reduceLT, Nat.reduceLeDiff, Nat.reduceEqDiff, ↓reduceIte, Int.reduceLT, Int.reduceLE, Int.reduceToNat, Int.reduceEq, Int.reduceNe, Nat.reduceAdd, UInt8.reduceOfNat, UInt16.reduceOfNat, UInt32.reduceOfNat, UInt64.reduceOfNat, UInt64.reduceToNat, UInt32.reduceToNat, UInt16.reduceToNat, UInt8.reduceToNat, Int.reduceAdd, Int.reduceSub, Int.reduceMul, Nat.reduceMul, Qp0, Qp1, Ql0, Qe0]
    refine ⟨_, PH.Le.refl _, ?_, hle2.trans hl3⟩
    unfold ENM
    rw [if_neg (by simp)]
    exact ⟨_, by first | rfl | trivial, be, _, rfl, hbm, rfl⟩
  | true =>
  simp -dsimp -implicitDefEqProofs (disch := first | omega | assumption | (simp only [Option.isSome_some, Qt0]; done) | (simp only [UInt64.reduceToNat, UInt32.reduceToNat, UInt8.reduceToNat, List.length_cons, List.length_nil, List.length_append, Int.toNat_natCast] <;> omega) | fail) only [Nat.reduceLT, Nat.reduceLeDiff, Nat.reduceEqDiff, ↓reduceIte, Int.reduceLT, Int.reduceLE, Int.reduceToNat, Int.reduceEq, Int.reduceNe, Nat.reduceAdd, UInt8.reduceOfNat, UInt16.reduceOfNat, UInt32.reduceOfNat, UInt64.reduceOfNat, UInt64.reduceToNat, UInt32.reduceToNat, UInt16.reduceToNat, UInt8.reduceToNat, Int.reduceAdd, Int.reduceSub, Int.reduceMul, Nat.reduceMul, Qp0, Qp1, Ql0, Qe0]
  refine fun ob hob => ?_
  have hs0 := OS.init hob
  have hkb : 1 ≤ k ∧ k ≤ 4 := by rcases rightM_cases hb with h | h | h | h <;> (have := h.1; omega)
  simp -dsimp -implicitDefEqProofs (disch := first | omega | assumption | (simp only [Option.isSome_some, Qt0]; done) | (simp only [UInt64.reduceToNat, UInt32.reduceToNat, UInt8.reduceToNat, List.length_cons, List.length_nil, List.length_append, Int.toNat_natCast] <;> omega) | fail) only [Nat.reduceLT, Nat.reduceLeDiff, Nat.reduceEqDiff, ↓reduceIte, Int.reduceLT, Int.reduceLE, Int.reduceToNat, Int.reduceEq, Int.reduceNe, Nat.reduceAdd, UInt8.reduceOfNat, UInt16.reduceOfNat, UInt32.reduceOfNat, UInt64.reduceOfNat, UInt64.reduceToNat, UInt32.reduceToNat, UInt16.reduceToNat, UInt8.reduceToNat, Int.reduceAdd, Int.reduceSub, Int.reduceMul, Nat.reduceMul, Qp0, Qp1, Ql0, Qe0]
  generalize q2.new ob ⟨[.slice none 0 0, .nilIface], 2⟩ = q3 at *
  refine PW_plan [0, 1, 2, 3, 4, 5] q2 (by kernel_rfl) (by decide +kernel) (by kernel_rfl) (by kernel_rfl) (by kernel_rfl) (fun c f h hq => by simp only [thenC_panic, thenK_panic, inBlk_panic, thenN_panic, vcRet_panic] at hq) hs0.le.sub ?_
  simp -dsimp -implicitDefEqProofs (disch := first | omega | assumption | (simp only [Option.isSome_some, Qt0]; done) | (simp only [UInt64.reduceToNat, UInt32.reduceToNat, UInt8.reduceToNat, List.length_cons, List.length_nil, List.length_append, Int.toNat_natCast] <;> omega) | fail) only [Nat.reduceLT, Nat.reduceLeDiff, Nat.reduceEqDiff, ↓reduceIte, Int.reduceLT, Int.reduceLE, Int.reduceToNat, Int.reduceEq, Int.reduceNe, Nat.reduceAdd, UInt8.reduceOfNat, UInt16.reduceOfNat, UInt32.reduceOfNat, UInt64.reduceOfNat, UInt64.reduceToNat, UInt32.reduceToNat, UInt16.reduceToNat, UInt8.reduceToNat, Int.reduceAdd, Int.reduceSub, Int.reduceMul, Nat.reduceMul, Qp0, Qp1, Ql0, Qe0, rd_M, rdM_some, hm2]
  refine (num_any q2 ob _ w0 _ hs0 k (by omega)).mono ?_
  intro r q4 hs1
  rw [numM_ok [] k (by omega) (by omega) (by simp), List.nil_append] at hs1
  refine ⟨hs1.le.sub, ?_⟩
  have hm4 := hs1.le.m _ _ hm2
  have hk9 := numB_len9 (n := k.toNat) (by omega)
  rcases rightM_cases hb with ⟨rfl, h1, rfl, rfl, rfl, rfl, rfl⟩ | ⟨rfl, rfl, h1, h2, rfl, rfl, rfl⟩ | ⟨rfl, rfl, rfl, rfl, h1, rfl, rfl⟩ | ⟨rfl, rfl, rfl, rfl, h1, h2, h3⟩
  · obtain ⟨p1, p2, p3, p4⟩ := rightWs_parts h1
    have hwl : wp.length = w.length := by rw [← g1, List.length_map]
    have hl9 := numB_len9 (n := w.length) (by omega)
    simp -dsimp -implicitDefEqProofs (disch := first | omega | assumption | (simp only [Option.isSome_some, Qt0]; done) | (simp only [UInt64.reduceToNat, UInt32.reduceToNat, UInt8.reduceToNat, List.length_cons, List.length_nil, List.length_append, Int.toNat_natCast] <;> omega) | fail) only [Nat.reduceLT, Nat.reduceLeDiff, Nat.reduceEqDiff, ↓reduceIte, Int.reduceLT, Int.reduceLE, Int.reduceToNat, Int.reduceEq, Int.reduceNe, Nat.reduceAdd, UInt8.reduceOfNat, UInt16.reduceOfNat, UInt32.reduceOfNat, UInt64.reduceOfNat, UInt64.reduceToNat, UInt32.reduceToNat, UInt16.reduceToNat, UInt8.reduceToNat, Int.reduceAdd, Int.reduceSub, Int.reduceMul, Nat.reduceMul, Qp0, Qp1, Ql0, Qe0, rd_M, rdM_some, hm4]
    refine PW_plan [0, 1, 2, 3, 4, 5, 6] q2 (by kernel_rfl) (by decide +kernel) (by kernel_rfl) (by kernel_rfl) (by kernel_rfl) (fun c f h hq => by simp only [thenC_panic, thenK_panic, inBlk_panic, thenN_panic, vcRet_panic] at hq) hs1.le.sub ?_
    simp -dsimp -implicitDefEqProofs (disch := first | omega | assumption | (simp only [Option.isSome_some, Qt0]; done) | (simp only [UInt64.reduceToNat, UInt32.reduceToNat, UInt8.reduceToNat, List.length_cons, List.length_nil, List.length_append, Int.toNat_natCast] <;> omega) | fail) only [Nat.reduceLT, Nat.reduceLeDiff, Nat.reduceEqDiff, ↓reduceIte, Int.reduceLT, Int.reduceLE, Int.reduceToNat, Int.reduceEq, Int.reduceNe, Nat.reduceAdd, UInt8.reduceOfNat, UInt16.reduceOfNat, UInt32.reduceOfNat, UInt64.reduceOfNat, UInt64.reduceToNat, UInt32.reduceToNat, UInt16.reduceToNat, UInt8.reduceToNat, Int.reduceAdd, Int.reduceSub, Int.reduceMul, Nat.reduceMul, Qp0, Qp1, Ql0, Qe0, rd_M, rdM_some, hm2]
    refine (num_any q2 ob _ w0 _ hs1 w.length (by omega)).mono ?_
    intro r q5 hs2
    rw [numM_ok _ w.length (by omega) (by omega) (by omega), Int.toNat_natCast] at hs2
    refine ⟨hs2.le.sub, ?_⟩
    have hm5 := hs2.le.m _ _ hm2
    simp -dsimp -implicitDefEqProofs (disch := first | omega | assumption | (simp only [Option.isSome_some, Qt0]; done) | (simp only [UInt64.reduceToNat, UInt32.reduceToNat, UInt8.reduceToNat, List.length_cons, List.length_nil, List.length_append, Int.toNat_natCast] <;> omega) | fail) only [Nat.reduceLT, Nat.reduceLeDiff, Nat.reduceEqDiff, ↓reduceIte, Int.reduceLT, Int.reduceLE, Int.reduceToNat, Int.reduceEq, Int.reduceNe, Nat.reduceAdd, UInt8.reduceOfNat, UInt16.reduceOfNat, UInt32.reduceOfNat, UInt64.reduceOfNat, UInt64.reduceToNat, UInt32.reduceToNat, UInt16.reduceToNat, UInt8.reduceToNat, Int.reduceAdd, Int.reduceSub, Int.reduceMul, Nat.reduceMul, Qp0, Qp1, Ql0, Qe0, rd_M, rdM_some, hm5]
    refine PW_loopL (fun n f h' => ∃ i : Nat, n + i = w.length ∧ f 4 = some (.pointer (some ⟨ob, 0, none⟩)) ∧ f 39 = some (.slice A w.length ca) ∧ f 40 = some (.int .i64 w.length) ∧ f 41 = some (.int .i64 i) ∧ OS q2 h' ob (numB (1 : Int).toNat ++ (numB w.length ++ (w.take i).flatMap fun y => textB (bytesW y)), none)) (by kernel_rfl) w.length ⟨0, by omega, ?_, ?_, ?_, ?_, by simpa using hs2⟩ ?_
    · simp -dsimp -implicitDefEqProofs (disch := first | omega | assumption | (simp only [Option.isSome_some, Qt0]; done) | (simp only [UInt64.reduceToNat, UInt32.reduceToNat, UInt8.reduceToNat, List.length_cons, List.length_nil, List.length_append, Int.toNat_natCast] <;> omega) | fail) only [Nat.reduceLT, Nat.reduceLeDiff, Nat.reduceEqDiff, ↓reduceIte, Int.reduceLT, Int.reduceLE, Int.reduceToNat, Int.reduceEq, Int.reduceNe, Nat.reduceAdd, UInt8.reduceOfNat, UInt16.reduceOfNat, UInt32.reduceOfNat, UInt64.reduceOfNat, UInt64.reduceToNat, UInt32.reduceToNat, UInt16.reduceToNat, UInt8.reduceToNat, Int.reduceAdd, Int.reduceSub, Int.reduceMul, Nat.reduceMul, Qp0, Qp1, Ql0, Qe0]
    · simp -dsimp -implicitDefEqProofs (disch := first | omega | assumption | (simp only [Option.isSome_some, Qt0]; done) | (simp only [UInt64.reduceToNat, UInt32.reduceToNat, UInt8.reduceToNat, List.length_cons, List.length_nil, List.length_append, Int.toNat_natCast] <;> omega) | fail) only [Nat.reduceLT, Nat.reduceLeDiff, Nat.reduceEqDiff, ↓reduceIte, Int.reduceLT, Int.reduceLE, Int.reduceToNat, Int.reduceEq, Int.reduceNe, Nat.reduceAdd, UInt8.reduceOfNat, UInt16.reduceOfNat, UInt32.reduceOfNat, UInt64.reduceOfNat, UInt64.reduceToNat, UInt32.reduceToNat, UInt16.reduceToNat, UInt8.reduceToNat, Int.reduceAdd, Int.reduceSub, Int.reduceMul, Nat.reduceMul, Qp0, Qp1, Ql0, Qe0]
    · simp -dsimp -implicitDefEqProofs (disch := first | omega | assumption | (simp only [Option.isSome_some, Qt0]; done) | (simp only [UInt64.reduceToNat, UInt32.reduceToNat, UInt8.reduceToNat, List.length_cons, List.length_nil, List.length_append, Int.toNat_natCast] <;> omega) | fail) only [Nat.reduceLT, Nat.reduceLeDiff, Nat.reduceEqDiff, ↓reduceIte, Int.reduceLT, Int.reduceLE, Int.reduceToNat, Int.reduceEq, Int.reduceNe, Nat.reduceAdd, UInt8.reduceOfNat, UInt16.reduceOfNat, UInt32.reduceOfNat, UInt64.reduceOfNat, UInt64.reduceToNat, UInt32.reduceToNat, UInt16.reduceToNat, UInt8.reduceToNat, Int.reduceAdd, Int.reduceSub, Int.reduceMul, Nat.reduceMul, Qp0, Qp1, Ql0, Qe0]
    · simp -dsimp -implicitDefEqProofs (disch := first | omega | assumption | (simp only [Option.isSome_some, Qt0]; done) | (simp only [UInt64.reduceToNat, UInt32.reduceToNat, UInt8.reduceToNat, List.length_cons, List.length_nil, List.length_append, Int.toNat_natCast] <;> omega) | fail) only [Nat.reduceLT, Nat.reduceLeDiff, Nat.reduceEqDiff, ↓reduceIte, Int.reduceLT, Int.reduceLE, Int.reduceToNat, Int.reduceEq, Int.reduceNe, Nat.reduceAdd, UInt8.reduceOfNat, UInt16.reduceOfNat, UInt32.reduceOfNat, UInt64.reduceOfNat, UInt64.reduceToNat, UInt32.reduceToNat, UInt16.reduceToNat, UInt8.reduceToNat, Int.reduceAdd, Int.reduceSub, Int.reduceMul, Nat.reduceMul, Qp0, Qp1, Ql0, Qe0]
      try rfl
    rintro n f h' ⟨i, hni, f4, f39, f40, f41, hs3⟩ hlow'
    by_cases hi : i < w.length
    rotate_left
    · have e2 : decide ((i : Int) < (w.length : Int)) = false := decide_eq_false (by omega)
      rw [List.take_of_length_le (by omega)] at hs3
      simp -dsimp -implicitDefEqProofs (disch := first | omega | assumption | (simp only [Option.isSome_some, Qt0]; done) | (simp only [UInt64.reduceToNat, UInt32.reduceToNat, UInt8.reduceToNat, List.length_cons, List.length_nil, List.length_append, Int.toNat_natCast] <;> omega) | fail) only [Nat.reduceLT, Nat.reduceLeDiff, Nat.reduceEqDiff, ↓reduceIte, Int.reduceLT, Int.reduceLE, Int.reduceToNat, Int.reduceEq, Int.reduceNe, Nat.reduceAdd, UInt8.reduceOfNat, UInt16.reduceOfNat, UInt32.reduceOfNat, UInt64.reduceOfNat, UInt64.reduceToNat, UInt32.reduceToNat, UInt16.reduceToNat, UInt8.reduceToNat, Int.reduceAdd, Int.reduceSub, Int.reduceMul, Nat.reduceMul, Qp0, Qp1, Ql0, Qe0, f4, f39, f40, f41, e2]
      refine (done_any q2 ob _ w0 _ hs3).mono ?_
      rintro z q6 ⟨hd, hz⟩
      obtain rfl := hz.symm
      obtain rfl : z = .tuple #[str (numB (1 : Int).toNat ++ (numB w.length ++ w.flatMap fun y => textB (bytesW y))), .nilIface] := hd
      simp -dsimp -implicitDefEqProofs (disch := first | omega | assumption | (simp only [Option.isSome_some, Qt0]; done) | (simp only [UInt64.reduceToNat, UInt32.reduceToNat, UInt8.reduceToNat, List.length_cons, List.length_nil, List.length_append, Int.toNat_natCast] <;> omega) | fail) only [Nat.reduceLT, Nat.reduceLeDiff, Nat.reduceEqDiff, ↓reduceIte, Int.reduceLT, Int.reduceLE, Int.reduceToNat, Int.reduceEq, Int.reduceNe, Nat.reduceAdd, UInt8.reduceOfNat, UInt16.reduceOfNat, UInt32.reduceOfNat, UInt64.reduceOfNat, UInt64.reduceToNat, UInt32.reduceToNat, UInt16.reduceToNat, UInt8.reduceToNat, Int.reduceAdd, Int.reduceSub, Int.reduceMul, Nat.reduceMul, Qp0, Qp1, Ql0, Qe0]
      exact ⟨_, PH.Le.refl _, by unfold ENM; rw [if_pos rfl]; first | rfl | trivial, hle2.trans hs3.le⟩
    have e2 : decide ((i : Int) < (w.length : Int)) = true := decide_eq_true (by omega)
    obtain ⟨⟨y, Ai, ci⟩, hx⟩ : ∃ x, wp[i]? = some x := ⟨_, List.getElem?_eq_getElem (by omega)⟩
    have hwx : w[i]? = some y := by rw [← g1, List.getElem?_map, hx]; rfl
    have hry := p3 y (List.mem_of_getElem? hwx)
    obtain ⟨b, o, rfl⟩ := g3.addr_ wpL_length (by omega) hx
    have hrd := (g3.more hs3.le).chunk wpL_length (by omega) hlow' hx
    have hgx := (g2 _ (List.mem_of_getElem? hx)).more hs3.le
    have hdx := (F4 y (List.mem_of_getElem? hwx)).1
    have ha : allOne (wpL (y, Ai, ci)) := wpL_one _
    have hE := fun h1 (hg1 : GoodW w0 h1 (y, Ai, ci)) => encW_any w0 h1 y Ai ci hg1.2 hg1.1 (by omega)
    unfold wpL wtL at hrd ha
    unfold wtL at hE
    simp only at hrd ha hE
    have hT : (i : Int).toNat = i := Int.toNat_natCast i
    simp -dsimp -implicitDefEqProofs (disch := first | omega | assumption | (simp only [Option.isSome_some, Qt0]; done) | (simp only [UInt64.reduceToNat, UInt32.reduceToNat, UInt8.reduceToNat, List.length_cons, List.length_nil, List.length_append, Int.toNat_natCast] <;> omega) | fail) only [Nat.reduceLT, Nat.reduceLeDiff, Nat.reduceEqDiff, ↓reduceIte, Int.reduceLT, Int.reduceLE, Int.reduceToNat, Int.reduceEq, Int.reduceNe, Nat.reduceAdd, UInt8.reduceOfNat, UInt16.reduceOfNat, UInt32.reduceOfNat, UInt64.reduceOfNat, UInt64.reduceToNat, UInt32.reduceToNat, UInt16.reduceToNat, UInt8.reduceToNat, Int.reduceAdd, Int.reduceSub, Int.reduceMul, Nat.reduceMul, Qp0, Qp1, Ql0, Qe0, f4, f39, f40, f41, e2, hrd]
    refine fun xb hxb => ?_
    have hxb' : h'.top ≤ xb := hxb
    obtain ⟨h1, hh1⟩ : ∃ h1, h'.new xb ⟨[.int .i64 y.r, .int .i64 y.n, .int .i64 y.t, .int .i64 y.q, .slice Ai y.d.length ci, str y.s, str y.k, str y.v, .bool y.g, .int .i64 y.l], 10⟩ = h1 := ⟨_, rfl⟩
    have hl1 : PH.Le h' h1 := by rw [← hh1]; exact (PH.Le.refl h').new _ _ hxb
    have hm1 : h1.m xb = some ⟨[.int .i64 y.r, .int .i64 y.n, .int .i64 y.t, .int .i64 y.q, .slice Ai y.d.length ci, str y.s, str y.k, str y.v, .bool y.g, .int .i64 y.l], 10⟩ := by rw [← hh1, PH.new_m, if_pos rfl]
    have hs1' : rdN w0 h1 ⟨xb, 0, none⟩ 10 = some [.int .i64 y.r, .int .i64 y.n, .int .i64 y.t, .int .i64 y.q, .slice Ai y.d.length ci, str y.s, str y.k, str y.v, .bool y.g, .int .i64 y.l] := by unfold rdN; simp only [hm1]; rfl
    simp -dsimp -implicitDefEqProofs (disch := first | omega | assumption | (simp only [Option.isSome_some, Qt0]; done) | (simp only [UInt64.reduceToNat, UInt32.reduceToNat, UInt8.reduceToNat, List.length_cons, List.length_nil, List.length_append, Int.toNat_natCast] <;> omega) | fail) only [Nat.reduceLT, Nat.reduceLeDiff, Nat.reduceEqDiff, ↓reduceIte, Int.reduceLT, Int.reduceLE, Int.reduceToNat, Int.reduceEq, Int.reduceNe, Nat.reduceAdd, UInt8.reduceOfNat, UInt16.reduceOfNat, UInt32.reduceOfNat, UInt64.reduceOfNat, UInt64.reduceToNat, UInt32.reduceToNat, UInt16.reduceToNat, UInt8.reduceToNat, Int.reduceAdd, Int.reduceSub, Int.reduceMul, Nat.reduceMul, Qp0, Qp1, Ql0, Qe0, f4, f39, f40, f41, List.set_cons_zero, List.set_cons_succ, List.take_zero, List.drop_succ_cons, List.drop_zero, List.drop_nil, List.nil_append, List.append_nil, List.take_succ_cons, ite_true, PH.new_new, hh1, hs1']
    refine (hE h1 (hgx.more hl1)).mono ?_
    rintro z h2 ⟨hE, hle2'⟩
    have hs4 := (hs3.more hl1).more hle2'
    unfold ENC at hE
    rw [hry, if_pos rfl] at hE
    subst hE
    simp -dsimp -implicitDefEqProofs (disch := first | omega | assumption | (simp only [Option.isSome_some, Qt0]; done) | (simp only [UInt64.reduceToNat, UInt32.reduceToNat, UInt8.reduceToNat, List.length_cons, List.length_nil, List.length_append, Int.toNat_natCast] <;> omega) | fail) only [Nat.reduceLT, Nat.reduceLeDiff, Nat.reduceEqDiff, ↓reduceIte, Int.reduceLT, Int.reduceLE, Int.reduceToNat, Int.reduceEq, Int.reduceNe, Nat.reduceAdd, UInt8.reduceOfNat, UInt16.reduceOfNat, UInt32.reduceOfNat, UInt64.reduceOfNat, UInt64.reduceToNat, UInt32.reduceToNat, UInt16.reduceToNat, UInt8.reduceToNat, Int.reduceAdd, Int.reduceSub, Int.reduceMul, Nat.reduceMul, Qp0, Qp1, Ql0, Qe0, f4, f39, f40, f41]
    have hby := bytesW_len hry
    refine (wtext_any q2 ob _ w0 _ hs4 (bytesW y) (by omega)).mono ?_
    intro r h3 hs5
    have hll : ((w.take i).flatMap fun y => textB (bytesW y)).length ≤ 20000 := by
      have := flat_len_K (g := fun y => textB (bytesW y)) (K := 1009) (w.take i) fun z hz => textB_len (bytesW_len (p3 z (List.mem_of_mem_take hz))) (by omega)
      have h9 : (w.take i).length ≤ 8 := by rw [List.length_take]; omega
      have : (w.take i).length * 1009 ≤ 8 * 1009 := Nat.mul_le_mul_right _ h9
      omega
    rw [textM_ok _ (bytesW y) hby (by simp only [List.length_append]; omega)] at hs5
    have hcat : numB (1 : Int).toNat ++ (numB w.length ++ (w.take i).flatMap fun y => textB (bytesW y)) ++ textB (bytesW y) = numB (1 : Int).toNat ++ (numB w.length ++ (w.take (i + 1)).flatMap fun y => textB (bytesW y)) := by
      rw [List.take_add_one, hwx]
      simp [List.flatMap_append]
    rw [hcat] at hs5
    simp -dsimp -implicitDefEqProofs (disch := first | omega | assumption | (simp only [Option.isSome_some, Qt0]; done) | (simp only [UInt64.reduceToNat, UInt32.reduceToNat, UInt8.reduceToNat, List.length_cons, List.length_nil, List.length_append, Int.toNat_natCast] <;> omega) | fail) only [Nat.reduceLT, Nat.reduceLeDiff, Nat.reduceEqDiff, ↓reduceIte, Int.reduceLT, Int.reduceLE, Int.reduceToNat, Int.reduceEq, Int.reduceNe, Nat.reduceAdd, UInt8.reduceOfNat, UInt16.reduceOfNat, UInt32.reduceOfNat, UInt64.reduceOfNat, UInt64.reduceToNat, UInt32.reduceToNat, UInt16.reduceToNat, UInt8.reduceToNat, Int.reduceAdd, Int.reduceSub, Int.reduceMul, Nat.reduceMul, Qp0, Qp1, Ql0, Qe0, f4, f39, f40, f41]
    exact ⟨n - 1, _, by omega, PH.Le.refl _, i + 1, by omega, by trivial, by trivial, by trivial, by simp, hs5⟩
  · have hN := isN_iff.1 h2
    have hvl := vecB_len h1
    have hbm : bytesM ⟨2, [], v, c, 0, [], 0⟩ = numB (2 : Int).toNat ++ vecB v ++ numB c.toNat := by unfold bytesM; simp
    simp -dsimp -implicitDefEqProofs (disch := first | omega | assumption | (simp only [Option.isSome_some, Qt0]; done) | (simp only [UInt64.reduceToNat, UInt32.reduceToNat, UInt8.reduceToNat, List.length_cons, List.length_nil, List.length_append, Int.toNat_natCast] <;> omega) | fail) only [Nat.reduceLT, Nat.reduceLeDiff, Nat.reduceEqDiff, ↓reduceIte, Int.reduceLT, Int.reduceLE, Int.reduceToNat, Int.reduceEq, Int.reduceNe, Nat.reduceAdd, UInt8.reduceOfNat, UInt16.reduceOfNat, UInt32.reduceOfNat, UInt64.reduceOfNat, UInt64.reduceToNat, UInt32.reduceToNat, UInt16.reduceToNat, UInt8.reduceToNat, Int.reduceAdd, Int.reduceSub, Int.reduceMul, Nat.reduceMul, Qp0, Qp1, Ql0, Qe0, rd_M, rdM_some, hm4]
    refine PW_plan [0, 1, 2, 3, 4, 5] q2 (by kernel_rfl) (by decide +kernel) (by kernel_rfl) (by kernel_rfl) (by kernel_rfl) (fun c f h hq => by simp only [thenC_panic, thenK_panic, inBlk_panic, thenN_panic, vcRet_panic] at hq) hs1.le.sub ?_
    simp -dsimp -implicitDefEqProofs (disch := first | omega | assumption | (simp only [Option.isSome_some, Qt0]; done) | (simp only [UInt64.reduceToNat, UInt32.reduceToNat, UInt8.reduceToNat, List.length_cons, List.length_nil, List.length_append, Int.toNat_natCast] <;> omega) | fail) only [Nat.reduceLT, Nat.reduceLeDiff, Nat.reduceEqDiff, ↓reduceIte, Int.reduceLT, Int.reduceLE, Int.reduceToNat, Int.reduceEq, Int.reduceNe, Nat.reduceAdd, UInt8.reduceOfNat, UInt16.reduceOfNat, UInt32.reduceOfNat, UInt64.reduceOfNat, UInt64.reduceToNat, UInt32.reduceToNat, UInt16.reduceToNat, UInt8.reduceToNat, Int.reduceAdd, Int.reduceSub, Int.reduceMul, Nat.reduceMul, Qp0, Qp1, Ql0, Qe0, rd_M, rdM_some, hm2]
    refine (wvec_any q2 ob _ w0 _ hs1 B cb v (g4.more hs1.le) g7 (by omega)).mono ?_
    intro r q5 hs2
    rw [vecM_ok _ v h1 (by omega)] at hs2
    refine ⟨hs2.le.sub, ?_⟩
    simp -dsimp -implicitDefEqProofs (disch := first | omega | assumption | (simp only [Option.isSome_some, Qt0]; done) | (simp only [UInt64.reduceToNat, UInt32.reduceToNat, UInt8.reduceToNat, List.length_cons, List.length_nil, List.length_append, Int.toNat_natCast] <;> omega) | fail) only [Nat.reduceLT, Nat.reduceLeDiff, Nat.reduceEqDiff, ↓reduceIte, Int.reduceLT, Int.reduceLE, Int.reduceToNat, Int.reduceEq, Int.reduceNe, Nat.reduceAdd, UInt8.reduceOfNat, UInt16.reduceOfNat, UInt32.reduceOfNat, UInt64.reduceOfNat, UInt64.reduceToNat, UInt32.reduceToNat, UInt16.reduceToNat, UInt8.reduceToNat, Int.reduceAdd, Int.reduceSub, Int.reduceMul, Nat.reduceMul, Qp0, Qp1, Ql0, Qe0]
    refine PW_plan [0, 1, 2, 3, 4, 5] q2 (by kernel_rfl) (by decide +kernel) (by kernel_rfl) (by kernel_rfl) (by kernel_rfl) (fun c f h hq => by simp only [thenC_panic, thenK_panic, inBlk_panic, thenN_panic, vcRet_panic] at hq) hs2.le.sub ?_
    simp -dsimp -implicitDefEqProofs (disch := first | omega | assumption | (simp only [Option.isSome_some, Qt0]; done) | (simp only [UInt64.reduceToNat, UInt32.reduceToNat, UInt8.reduceToNat, List.length_cons, List.length_nil, List.length_append, Int.toNat_natCast] <;> omega) | fail) only [Nat.reduceLT, Nat.reduceLeDiff, Nat.reduceEqDiff, ↓reduceIte, Int.reduceLT, Int.reduceLE, Int.reduceToNat, Int.reduceEq, Int.reduceNe, Nat.reduceAdd, UInt8.reduceOfNat, UInt16.reduceOfNat, UInt32.reduceOfNat, UInt64.reduceOfNat, UInt64.reduceToNat, UInt32.reduceToNat, UInt16.reduceToNat, UInt8.reduceToNat, Int.reduceAdd, Int.reduceSub, Int.reduceMul, Nat.reduceMul, Qp0, Qp1, Ql0, Qe0, rd_M, rdM_some, hm2]
    refine (num_any q2 ob _ w0 _ hs2 c (by omega)).mono ?_
    intro r q6 hs9
    rw [numM_ok _ c (by omega) (by omega) (by rw [List.length_append]; omega)] at hs9
    refine ⟨hs9.le.sub, ?_⟩
    simp -dsimp -implicitDefEqProofs (disch := first | omega | assumption | (simp only [Option.isSome_some, Qt0]; done) | (simp only [UInt64.reduceToNat, UInt32.reduceToNat, UInt8.reduceToNat, List.length_cons, List.length_nil, List.length_append, Int.toNat_natCast] <;> omega) | fail) only [Nat.reduceLT, Nat.reduceLeDiff, Nat.reduceEqDiff, ↓reduceIte, Int.reduceLT, Int.reduceLE, Int.reduceToNat, Int.reduceEq, Int.reduceNe, Nat.reduceAdd, UInt8.reduceOfNat, UInt16.reduceOfNat, UInt32.reduceOfNat, UInt64.reduceOfNat, UInt64.reduceToNat, UInt32.reduceToNat, UInt16.reduceToNat, UInt8.reduceToNat, Int.reduceAdd, Int.reduceSub, Int.reduceMul, Nat.reduceMul, Qp0, Qp1, Ql0, Qe0]
    refine (done_any q2 ob _ w0 _ hs9).mono ?_
    rintro z q6 ⟨hd, hz⟩
    obtain rfl := hz.symm
    obtain rfl : z = .tuple #[str (numB (2 : Int).toNat ++ vecB v ++ numB c.toNat), .nilIface] := hd
    simp -dsimp -implicitDefEqProofs (disch := first | omega | assumption | (simp only [Option.isSome_some, Qt0]; done) | (simp only [UInt64.reduceToNat, UInt32.reduceToNat, UInt8.reduceToNat, List.length_cons, List.length_nil, List.length_append, Int.toNat_natCast] <;> omega) | fail) only [Nat.reduceLT, Nat.reduceLeDiff, Nat.reduceEqDiff, ↓reduceIte, Int.reduceLT, Int.reduceLE, Int.reduceToNat, Int.reduceEq, Int.reduceNe, Nat.reduceAdd, UInt8.reduceOfNat, UInt16.reduceOfNat, UInt32.reduceOfNat, UInt64.reduceOfNat, UInt64.reduceToNat, UInt32.reduceToNat, UInt16.reduceToNat, UInt8.reduceToNat, Int.reduceAdd, Int.reduceSub, Int.reduceMul, Nat.reduceMul, Qp0, Qp1, Ql0, Qe0]
    exact ⟨_, PH.Le.refl _, by unfold ENM; rw [if_pos rfl, hbm]; first | rfl | trivial, hle2.trans hs9.le⟩
  · have hN := isN_iff.1 h1
    have hbm : bytesM ⟨3, [], [], 0, t, [], 0⟩ = numB (3 : Int).toNat ++ numB t.toNat := by unfold bytesM; simp
    simp -dsimp -implicitDefEqProofs (disch := first | omega | assumption | (simp only [Option.isSome_some, Qt0]; done) | (simp only [UInt64.reduceToNat, UInt32.reduceToNat, UInt8.reduceToNat, List.length_cons, List.length_nil, List.length_append, Int.toNat_natCast] <;> omega) | fail) only [Nat.reduceLT, Nat.reduceLeDiff, Nat.reduceEqDiff, ↓reduceIte, Int.reduceLT, Int.reduceLE, Int.reduceToNat, Int.reduceEq, Int.reduceNe, Nat.reduceAdd, UInt8.reduceOfNat, UInt16.reduceOfNat, UInt32.reduceOfNat, UInt64.reduceOfNat, UInt64.reduceToNat, UInt32.reduceToNat, UInt16.reduceToNat, UInt8.reduceToNat, Int.reduceAdd, Int.reduceSub, Int.reduceMul, Nat.reduceMul, Qp0, Qp1, Ql0, Qe0, rd_M, rdM_some, hm4]
    refine PW_plan [0, 1, 2, 3, 4, 5] q2 (by kernel_rfl) (by decide +kernel) (by kernel_rfl) (by kernel_rfl) (by kernel_rfl) (fun c f h hq => by simp only [thenC_panic, thenK_panic, inBlk_panic, thenN_panic, vcRet_panic] at hq) hs1.le.sub ?_
    simp -dsimp -implicitDefEqProofs (disch := first | omega | assumption | (simp only [Option.isSome_some, Qt0]; done) | (simp only [UInt64.reduceToNat, UInt32.reduceToNat, UInt8.reduceToNat, List.length_cons, List.length_nil, List.length_append, Int.toNat_natCast] <;> omega) | fail) only [Nat.reduceLT, Nat.reduceLeDiff, Nat.reduceEqDiff, ↓reduceIte, Int.reduceLT, Int.reduceLE, Int.reduceToNat, Int.reduceEq, Int.reduceNe, Nat.reduceAdd, UInt8.reduceOfNat, UInt16.reduceOfNat, UInt32.reduceOfNat, UInt64.reduceOfNat, UInt64.reduceToNat, UInt32.reduceToNat, UInt16.reduceToNat, UInt8.reduceToNat, Int.reduceAdd, Int.reduceSub, Int.reduceMul, Nat.reduceMul, Qp0, Qp1, Ql0, Qe0, rd_M, rdM_some, hm2]
    refine (num_any q2 ob _ w0 _ hs1 t (by omega)).mono ?_
    intro r q6 hs9
    rw [numM_ok _ t (by omega) (by omega) (by omega)] at hs9
    refine ⟨hs9.le.sub, ?_⟩
    simp -dsimp -implicitDefEqProofs (disch := first | omega | assumption | (simp only [Option.isSome_some, Qt0]; done) | (simp only [UInt64.reduceToNat, UInt32.reduceToNat, UInt8.reduceToNat, List.length_cons, List.length_nil, List.length_append, Int.toNat_natCast] <;> omega) | fail) only [Nat.reduceLT, Nat.reduceLeDiff, Nat.reduceEqDiff, ↓reduceIte, Int.reduceLT, Int.reduceLE, Int.reduceToNat, Int.reduceEq, Int.reduceNe, Nat.reduceAdd, UInt8.reduceOfNat, UInt16.reduceOfNat, UInt32.reduceOfNat, UInt64.reduceOfNat, UInt64.reduceToNat, UInt32.reduceToNat, UInt16.reduceToNat, UInt8.reduceToNat, Int.reduceAdd, Int.reduceSub, Int.reduceMul, Nat.reduceMul, Qp0, Qp1, Ql0, Qe0]
    refine (done_any q2 ob _ w0 _ hs9).mono ?_
    rintro z q6 ⟨hd, hz⟩
    obtain rfl := hz.symm
    obtain rfl : z = .tuple #[str (numB (3 : Int).toNat ++ numB t.toNat), .nilIface] := hd
    simp -dsimp -implicitDefEqProofs (disch := first | omega | assumption | (simp only [Option.isSome_some, Qt0]; done) | (simp only [UInt64.reduceToNat, UInt32.reduceToNat, UInt8.reduceToNat, List.length_cons, List.length_nil, List.length_append, Int.toNat_natCast] <;> omega) | fail) only [Nat.reduceLT, Nat.reduceLeDiff, Nat.reduceEqDiff, ↓reduceIte, Int.reduceLT, Int.reduceLE, Int.reduceToNat, Int.reduceEq, Int.reduceNe, Nat.reduceAdd, UInt8.reduceOfNat, UInt16.reduceOfNat, UInt32.reduceOfNat, UInt64.reduceOfNat, UInt64.reduceToNat, UInt32.reduceToNat, UInt16.reduceToNat, UInt8.reduceToNat, Int.reduceAdd, Int.reduceSub, Int.reduceMul, Nat.reduceMul, Qp0, Qp1, Ql0, Qe0]
    exact ⟨_, PH.Le.refl _, by unfold ENM; rw [if_pos rfl, hbm]; first | rfl | trivial, hle2.trans hs9.le⟩
  · have hN := isN_iff.1 h1
    have hX := isN_iff.1 h3
    obtain ⟨p1, p2, p3⟩ := rightE_parts h2
    have hbm : bytesM ⟨4, [], [], 0, t, e, x⟩ = numB (4 : Int).toNat ++ epsB e ++ numB x.toNat ++ numB t.toNat := by unfold bytesM; simp
    have hel : (epsB e).length ≤ 9000 := by
      have := flat_len_K (g := epB) (K := 50) e fun y hy => epB_len (p2 y hy)
      have h9 := numB_len9 (n := e.length) (by omega)
      have : e.length * 50 ≤ 64 * 50 := Nat.mul_le_mul_right _ p1
      unfold epsB
      rw [List.length_append]; omega
    have hx9 := numB_len9 (n := x.toNat) (by omega)
    simp -dsimp -implicitDefEqProofs (disch := first | omega | assumption | (simp only [Option.isSome_some, Qt0]; done) | (simp only [UInt64.reduceToNat, UInt32.reduceToNat, UInt8.reduceToNat, List.length_cons, List.length_nil, List.length_append, Int.toNat_natCast] <;> omega) | fail) only [Nat.reduceLT, Nat.reduceLeDiff, Nat.reduceEqDiff, ↓reduceIte, Int.reduceLT, Int.reduceLE, Int.reduceToNat, Int.reduceEq, Int.reduceNe, Nat.reduceAdd, UInt8.reduceOfNat, UInt16.reduceOfNat, UInt32.reduceOfNat, UInt64.reduceOfNat, UInt64.reduceToNat, UInt32.reduceToNat, UInt16.reduceToNat, UInt8.reduceToNat, Int.reduceAdd, Int.reduceSub, Int.reduceMul, Nat.reduceMul, Qp0, Qp1, Ql0, Qe0, rd_M, rdM_some, hm4]
    refine (epochs_any q2 ob w0 _ _ hs1 (by omega) C cc e g5 g8 h2 hut2).mono ?_
    intro r q5 hs2
    simp -dsimp -implicitDefEqProofs (disch := first | omega | assumption | (simp only [Option.isSome_some, Qt0]; done) | (simp only [UInt64.reduceToNat, UInt32.reduceToNat, UInt8.reduceToNat, List.length_cons, List.length_nil, List.length_append, Int.toNat_natCast] <;> omega) | fail) only [Nat.reduceLT, Nat.reduceLeDiff, Nat.reduceEqDiff, ↓reduceIte, Int.reduceLT, Int.reduceLE, Int.reduceToNat, Int.reduceEq, Int.reduceNe, Nat.reduceAdd, UInt8.reduceOfNat, UInt16.reduceOfNat, UInt32.reduceOfNat, UInt64.reduceOfNat, UInt64.reduceToNat, UInt32.reduceToNat, UInt16.reduceToNat, UInt8.reduceToNat, Int.reduceAdd, Int.reduceSub, Int.reduceMul, Nat.reduceMul, Qp0, Qp1, Ql0, Qe0]
    refine PW_plan [0, 1, 2, 3, 4, 5] q2 (by kernel_rfl) (by decide +kernel) (by kernel_rfl) (by kernel_rfl) (by kernel_rfl) (fun c f h hq => by simp only [thenC_panic, thenK_panic, inBlk_panic, thenN_panic, vcRet_panic] at hq) hs2.le.sub ?_
    simp -dsimp -implicitDefEqProofs (disch := first | omega | assumption | (simp only [Option.isSome_some, Qt0]; done) | (simp only [UInt64.reduceToNat, UInt32.reduceToNat, UInt8.reduceToNat, List.length_cons, List.length_nil, List.length_append, Int.toNat_natCast] <;> omega) | fail) only [Nat.reduceLT, Nat.reduceLeDiff, Nat.reduceEqDiff, ↓reduceIte, Int.reduceLT, Int.reduceLE, Int.reduceToNat, Int.reduceEq, Int.reduceNe, Nat.reduceAdd, UInt8.reduceOfNat, UInt16.reduceOfNat, UInt32.reduceOfNat, UInt64.reduceOfNat, UInt64.reduceToNat, UInt32.reduceToNat, UInt16.reduceToNat, UInt8.reduceToNat, Int.reduceAdd, Int.reduceSub, Int.reduceMul, Nat.reduceMul, Qp0, Qp1, Ql0, Qe0, rd_M, rdM_some, hm2]
    refine (num_any q2 ob _ w0 _ hs2 x (by omega)).mono ?_
    intro r q6 hs3
    rw [numM_ok _ x (by omega) (by omega) (by rw [List.length_append]; omega)] at hs3
    refine ⟨hs3.le.sub, ?_⟩
    simp -dsimp -implicitDefEqProofs (disch := first | omega | assumption | (simp only [Option.isSome_some, Qt0]; done) | (simp only [UInt64.reduceToNat, UInt32.reduceToNat, UInt8.reduceToNat, List.length_cons, List.length_nil, List.length_append, Int.toNat_natCast] <;> omega) | fail) only [Nat.reduceLT, Nat.reduceLeDiff, Nat.reduceEqDiff, ↓reduceIte, Int.reduceLT, Int.reduceLE, Int.reduceToNat, Int.reduceEq, Int.reduceNe, Nat.reduceAdd, UInt8.reduceOfNat, UInt16.reduceOfNat, UInt32.reduceOfNat, UInt64.reduceOfNat, UInt64.reduceToNat, UInt32.reduceToNat, UInt16.reduceToNat, UInt8.reduceToNat, Int.reduceAdd, Int.reduceSub, Int.reduceMul, Nat.reduceMul, Qp0, Qp1, Ql0, Qe0]
    refine PW_plan [0, 1, 2, 3, 4, 5] q2 (by kernel_rfl) (by decide +kernel) (by kernel_rfl) (by kernel_rfl) (by kernel_rfl) (fun c f h hq => by simp only [thenC_panic, thenK_panic, inBlk_panic, thenN_panic, vcRet_panic] at hq) hs3.le.sub ?_
    simp -dsimp -implicitDefEqProofs (disch := first | omega | assumption | (simp only [Option.isSome_some, Qt0]; done) | (simp only [UInt64.reduceToNat, UInt32.reduceToNat, UInt8.reduceToNat, List.length_cons, List.length_nil, List.length_append, Int.toNat_natCast] <;> omega) | fail) only [Nat.reduceLT, Nat.reduceLeDiff, Nat.reduceEqDiff, ↓reduceIte, Int.reduceLT, Int.reduceLE, Int.reduceToNat, Int.reduceEq, Int.reduceNe, Nat.reduceAdd, UInt8.reduceOfNat, UInt16.reduceOfNat, UInt32.reduceOfNat, UInt64.reduceOfNat, UInt64.reduceToNat, UInt32.reduceToNat, UInt16.reduceToNat, UInt8.reduceToNat, Int.reduceAdd, Int.reduceSub, Int.reduceMul, Nat.reduceMul, Qp0, Qp1, Ql0, Qe0, rd_M, rdM_some, hm2]
    refine (num_any q2 ob _ w0 _ hs3 t (by omega)).mono ?_
    intro r q7 hs9
    rw [numM_ok _ t (by omega) (by omega) (by simp only [List.length_append]; omega)] at hs9
    refine ⟨hs9.le.sub, ?_⟩
    simp -dsimp -implicitDefEqProofs (disch := first | omega | assumption | (simp only [Option.isSome_some, Qt0]; done) | (simp only [UInt64.reduceToNat, UInt32.reduceToNat, UInt8.reduceToNat, List.length_cons, List.length_nil, List.length_append, Int.toNat_natCast] <;> omega) | fail) only [Nat.reduceLT, Nat.reduceLeDiff, Nat.reduceEqDiff, ↓reduceIte, Int.reduceLT, Int.reduceLE, Int.reduceToNat, Int.reduceEq, Int.reduceNe, Nat.reduceAdd, UInt8.reduceOfNat, UInt16.reduceOfNat, UInt32.reduceOfNat, UInt64.reduceOfNat, UInt64.reduceToNat, UInt32.reduceToNat, UInt16.reduceToNat, UInt8.reduceToNat, Int.reduceAdd, Int.reduceSub, Int.reduceMul, Nat.reduceMul, Qp0, Qp1, Ql0, Qe0]
    refine (done_any q2 ob _ w0 _ hs9).mono ?_
    rintro z q6 ⟨hd, hz⟩
    obtain rfl := hz.symm
    obtain rfl : z = .tuple #[str (numB (4 : Int).toNat ++ epsB e ++ numB x.toNat ++ numB t.toNat), .nilIface] := hd
    simp -dsimp -implicitDefEqProofs (disch := first | omega | assumption | (simp only [Option.isSome_some, Qt0]; done) | (simp only [UInt64.reduceToNat, UInt32.reduceToNat, UInt8.reduceToNat, List.length_cons, List.length_nil, List.length_append, Int.toNat_natCast] <;> omega) | fail) only [Nat.reduceLT, Nat.reduceLeDiff, Nat.reduceEqDiff, ↓reduceIte, Int.reduceLT, Int.reduceLE, Int.reduceToNat, Int.reduceEq, Int.reduceNe, Nat.reduceAdd, UInt8.reduceOfNat, UInt16.reduceOfNat, UInt32.reduceOfNat, UInt64.reduceOfNat, UInt64.reduceToNat, UInt32.reduceToNat, UInt16.reduceToNat, UInt8.reduceToNat, Int.reduceAdd, Int.reduceSub, Int.reduceMul, Nat.reduceMul, Qp0, Qp1, Ql0, Qe0]
    exact ⟨_, PH.Le.refl _, by unfold ENM; rw [if_pos rfl, hbm]; first | rfl | trivial, hle2.trans hs9.le⟩
end Go.Proofs.Ytdhgmifgjaedbaa


/- Walk: the reference's Bytes of a message. No condition. -/
namespace Go.Proofs.Ytdhgmifgjaedbaa
set_option linter.unusedVariables false
set_option linter.unusedSimpArgs false
open Go.RowKit Px Wr
theorem OwnS.one {h : PH} {b sz : Nat} {xs : List Value} (hb : h.top ≤ b) (hl : xs.length = sz) : OwnS h (h.new b ⟨xs, sz⟩) sz (.slice (some ⟨b, 0, none⟩) 1 1) 1 xs := by
  have := @OwnS.zero h b sz hb
  refine ⟨(PH.Le.refl h).new _ _ hb, ⟨by rw [hl, Nat.one_mul], .inr ⟨b, 1, rfl, Nat.le_refl _, by simp [maxLen], by rw [PH.new_m, if_pos rfl, Nat.one_mul]⟩⟩, fun x e => by cases e; exact hb⟩
end Go.Proofs.Ytdhgmifgjaedbaa


/- A message's bytes, read: the plain law. No condition. -/
namespace Go.Proofs.Ytdhgmifgjaedbaa
set_option linter.unusedVariables false
set_option linter.unusedSimpArgs false
open Go.RowKit Px Wr
def wB (y : Wt) : List UInt8 := textB (bytesW y)
/-- Writes, read one by one. -/
def WsRun (mt : Int) (len : Nat) : List Wt → St → St → Prop
  | [], a, b => a = b
  | c :: L, a, b => ∃ y s1, txtS mt len a = (y, s1) ∧ IsW y c ∧ WsRun mt len L s1 b
theorem WsRun.snoc {mt : Int} {len : Nat} : ∀ {L : List Wt} {a b c : St} {y : List UInt8} {d : Wt}, WsRun mt len L a b → txtS mt len b = (y, c) → IsW y d → WsRun mt len (L ++ [d]) a c
  | [], a, b, c, y, d, h1, h2, h3 => by
    obtain rfl : a = b := h1
    exact ⟨y, c, h2, h3, rfl⟩
  | x :: L, a, b, c, y, d, ⟨z, s1, e1, e2, e3⟩, h2, h3 => ⟨z, s1, e1, e2, e3.snoc h2 h3⟩
theorem WsRun.back {mt : Int} {len : Nat} : ∀ {L : List Wt} {a : St} {u : List UInt8}, WsRun mt len L a (.ok u) → a = .ok (L.flatMap wB ++ u)
  | [], a, u, h => h
  | c :: L, a, u, ⟨y, s1, e1, e2, e3⟩ => by
    have h1 := e3.back
    rw [h1] at e1
    rw [txtS_back e1, List.flatMap_cons, List.append_assoc, wB, e2.2]
theorem WsRun.fwd {mt : Int} {len : Nat} (hm : 1000 ≤ mt) : ∀ {L M : List Wt} {u : List UInt8} {b : St}, (∀ y ∈ M, rightW y = true) → L.length ≤ M.length → WsRun mt len L (.ok (M.flatMap wB ++ u)) b → L = M.take L.length ∧ b = .ok ((M.drop L.length).flatMap wB ++ u)
  | [], M, u, b, _, _, h => ⟨by simp, by have h : _ = b := h; rw [← h]; simp⟩
  | c :: L, [], u, b, _, hl, _ => by simp at hl
  | c :: L, d :: M, u, b, hr, hl, ⟨y, s1, e1, e2, e3⟩ => by
    have hd := hr d (List.mem_cons_self ..)
    have hb := bytesW_len hd
    rw [List.flatMap_cons, List.append_assoc, wB, txtS_fwd (by omega) (by omega)] at e1
    injection e1 with e1 e4
    subst e4
    obtain ⟨h1, h2⟩ := e3.fwd hm (fun z hz => hr z (List.mem_cons_of_mem _ hz)) (by simpa using hl)
    obtain rfl : c = d := IsW_one (s := y) e2 ⟨hd, e1.symm⟩
    refine ⟨?_, ?_⟩
    · rw [List.length_cons, List.take_succ_cons, ← h1]
    · rw [List.length_cons, List.drop_succ_cons, ← h2]
/-- What stands where a write is to be read. -/
theorem WsRun.next {mt : Int} {len : Nat} (hm : 1000 ≤ mt) {L M : List Wt} {u : List UInt8} {b c : St} {y : List UInt8} (hr : ∀ y ∈ M, rightW y = true) (hl : L.length < M.length) (h : WsRun mt len L (.ok (M.flatMap wB ++ u)) b) (hy : txtS mt len b = (y, c)) : ∃ d, IsW y d := by
  obtain ⟨h1, h2⟩ := h.fwd hm hr (by omega)
  have hd := hr _ (List.getElem_mem hl)
  rw [h2, List.drop_eq_getElem_cons hl, List.flatMap_cons, List.append_assoc, wB, txtS_fwd (by have := bytesW_len hd; omega) (by have := bytesW_len hd; omega)] at hy
  injection hy with hy _
  exact ⟨_, hd, hy.symm⟩
/-- Epochs, read one by one. -/
def EpRun (mu mn : Int) (len : Nat) : List Ep → St → St → Prop
  | [], a, b => a = b
  | p :: L, a, b => ∃ s1 n s2, txtS mu len a = (p.u, s1) ∧ numS mn len s1 = (n, s2) ∧ p.n = (n : Nat) ∧ EpRun mu mn len L s2 b
theorem EpRun.snoc {mu mn : Int} {len : Nat} : ∀ {L : List Ep} {a b c d : St} {u : List UInt8} {n : Nat}, EpRun mu mn len L a b → txtS mu len b = (u, c) → numS mn len c = (n, d) → EpRun mu mn len (L ++ [⟨u, n⟩]) a d
  | [], a, b, c, d, u, n, h1, h2, h3 => by
    obtain rfl : a = b := h1
    exact ⟨c, n, d, h2, h3, rfl, rfl⟩
  | x :: L, a, b, c, d, u, n, ⟨s1, k, s2, e1, e2, e3, e4⟩, h2, h3 => ⟨s1, k, s2, e1, e2, e3, e4.snoc h2 h3⟩
theorem EpRun.back {mu mn : Int} {len : Nat} : ∀ {L : List Ep} {a : St} {u : List UInt8}, EpRun mu mn len L a (.ok u) → a = .ok (L.flatMap epB ++ u)
  | [], a, u, h => h
  | p :: L, a, u, ⟨s1, n, s2, e1, e2, e3, e4⟩ => by
    have h1 := e4.back
    rw [h1] at e2
    have h2 := (numS_back e2).1
    rw [h2] at e1
    rw [txtS_back e1, List.flatMap_cons, epB, e3]
    simp
theorem EpRun.fwd {mu mn : Int} {len : Nat} (hu : 32 ≤ mu) (hn : 1099511627776 ≤ mn) : ∀ {L M : List Ep} {u : List UInt8} {b : St}, (∀ y ∈ M, rightEp y = true) → L.length ≤ M.length → EpRun mu mn len L (.ok (M.flatMap epB ++ u)) b → L = M.take L.length ∧ b = .ok ((M.drop L.length).flatMap epB ++ u)
  | [], M, u, b, _, _, h => ⟨by simp, by have h : _ = b := h; rw [← h]; simp⟩
  | c :: L, [], u, b, _, hl, _ => by simp at hl
  | p :: L, ⟨v, k⟩ :: M, u, b, hr, hl, ⟨s1, n, s2, e1, e2, e3, e4⟩ => by
    have hd := rightEp_iff.1 (hr ⟨v, k⟩ (List.mem_cons_self ..))
    rw [List.flatMap_cons, List.append_assoc, epB, List.append_assoc, txtS_fwd (by simp only; omega) (by simp only; omega)] at e1
    injection e1 with e1 e5
    subst e5
    rw [numS_fwd (by simp only; omega) (by simp only; omega) (by simp only; omega)] at e2
    injection e2 with e2 e6
    subst e6
    obtain ⟨h1, h2⟩ := e4.fwd hu hn (fun z hz => hr z (List.mem_cons_of_mem _ hz)) (by simpa using hl)
    have hp : p = ⟨v, k⟩ := by
      cases p
      simp only at e1 e3
      rw [← e1, e3, ← e2]
      simp only [Ep.mk.injEq, true_and]
      omega
    refine ⟨?_, ?_⟩
    · rw [List.length_cons, List.take_succ_cons, ← h1, hp]
    · rw [List.length_cons, List.drop_succ_cons, ← h2]
/-- The bounds that a reader sets. -/
structure Bd where
  k : Int
  t : Int
  u : Int
structure Bd.Ok (d : Bd) : Prop where
  k : 4 ≤ d.k
  t : 1000 ≤ d.t
  u : 32 ≤ d.u
/-- A message, read up to a state. -/
def RunM (d : Bd) (len : Nat) (s : List UInt8) (m : Ms) (st : St) : Prop :=
  ∃ k s1, numS d.k len (.ok s) = (k, s1) ∧
    ((k = 1 ∧ ∃ n s2 L, numS 8 len s1 = (n, s2) ∧ L.length = n ∧ WsRun d.t len L s2 st ∧ m = ⟨1, L, [], 0, 0, [], 0⟩) ∨
     (k = 2 ∧ ∃ v s2 c, vecS len s1 = (v, s2) ∧ numS 1099511627776 len s2 = (c, st) ∧ m = ⟨2, [], v, (c : Nat), 0, [], 0⟩) ∨
     (k = 3 ∧ ∃ t, numS 1099511627776 len s1 = (t, st) ∧ m = ⟨3, [], [], 0, (t : Nat), [], 0⟩) ∨
     (k = 4 ∧ ∃ n s2 L s3 x s4 t, numS 64 len s1 = (n, s2) ∧ L.length = n ∧ EpRun d.u 1099511627776 len L s2 s3 ∧ numS 1099511627776 len s3 = (x, s4) ∧ numS 1099511627776 len s4 = (t, st) ∧ m = ⟨4, [], [], 0, (t : Nat), L, (x : Nat)⟩) ∨
     (k ≠ 1 ∧ k ≠ 2 ∧ k ≠ 3 ∧ k ≠ 4 ∧ m.k = (k : Nat)))
theorem RunM.back {d : Bd} {len : Nat} {s : List UInt8} {m : Ms} (h : RunM d len s m (.ok [])) (hr : rightM m = true) : s = bytesM m := by
  obtain ⟨k, s1, h1, h2⟩ := h
  rcases h2 with ⟨rfl, n, s2, L, e1, e2, e3, rfl⟩ | ⟨rfl, v, s2, c, e1, e2, rfl⟩ | ⟨rfl, t, e1, rfl⟩ | ⟨rfl, n, s2, L, s3, x, s4, t, e1, e2, e3, e4, e5, rfl⟩ | ⟨n1, n2, n3, n4, e1⟩
  · have b1 := e3.back
    rw [b1] at e1
    have b2 := (numS_back e1).1
    rw [b2] at h1
    have b3 := (numS_back h1).1
    injection b3 with b3
    rw [b3, ← e2]
    unfold bytesM wsB
    simp [show wB = (fun y => textB (bytesW y)) from rfl]
  · have b1 := (numS_back e2).1
    rw [b1] at e1
    have b2 := (vecS_back e1).1
    rw [b2] at h1
    have b3 := (numS_back h1).1
    injection b3 with b3
    rw [b3]
    unfold bytesM
    simp
  · have b2 := (numS_back e1).1
    rw [b2] at h1
    have b3 := (numS_back h1).1
    injection b3 with b3
    rw [b3]
    unfold bytesM
    simp
  · have b1 := (numS_back e5).1
    rw [b1] at e4
    have b2 := (numS_back e4).1
    rw [b2] at e3
    have b3 := e3.back
    rw [b3] at e1
    have b4 := (numS_back e1).1
    rw [b4] at h1
    have b5 := (numS_back h1).1
    injection b5 with b5
    rw [b5, ← e2]
    unfold bytesM epsB
    simp
  · obtain ⟨K, w, v, c, t, e, x⟩ := m
    simp only at e1
    rw [rightM_5 _ _ _ _ _ _ (by omega) (by omega) (by omega) (by omega)] at hr
    cases hr
theorem numS_fit1 {m : Int} {n : Nat} {x : Nat} {u : List UInt8} (h1 : (x : Int) ≤ m) (h2 : x ≤ 1099511627776) : numS m n (.ok (numB x ++ u)) = (x, .ok u) := by
  have := @numS_fwd m n (x : Int) u (by omega) h1 (by omega)
  rwa [Int.toNat_natCast] at this
theorem RunM.fwd {d : Bd} (hd : d.Ok) {len : Nat} {m m' : Ms} {st : St} (hr : rightM m = true) (h : RunM d len (bytesM m) m' st) : m' = m ∧ st = .ok [] := by
  obtain ⟨k, w, v, c, t, e, x⟩ := m
  obtain ⟨k', s1, h1, h2⟩ := h
  have hk4 := hd.k
  rcases rightM_cases hr with ⟨rfl, g1, rfl, rfl, rfl, rfl, rfl⟩ | ⟨rfl, rfl, g1, g2, rfl, rfl, rfl⟩ | ⟨rfl, rfl, rfl, rfl, g1, rfl, rfl⟩ | ⟨rfl, rfl, rfl, rfl, g1, g2, g3⟩
  · obtain ⟨p1, p2, p3, p4⟩ := rightWs_parts g1
    have hb : bytesM ⟨1, w, [], 0, 0, [], 0⟩ = numB (1 : Nat) ++ (numB w.length ++ (w.flatMap wB ++ [])) := by unfold bytesM wsB; simp [show wB = (fun y => textB (bytesW y)) from rfl]
    rw [hb, numS_fit1 (by omega) (by omega)] at h1
    injection h1 with a1 a2
    subst a1; subst a2
    rcases h2 with ⟨_, n, s2, L, e1, e2, e3, rfl⟩ | ⟨h, _⟩ | ⟨h, _⟩ | ⟨h, _⟩ | ⟨h, _⟩
    · rw [numS_fit1 (by omega) (by omega)] at e1
      injection e1 with a1 a2
      subst a2
      obtain ⟨f1, f2⟩ := e3.fwd hd.t p3 (by omega)
      rw [List.take_of_length_le (by omega)] at f1
      rw [List.drop_eq_nil_of_le (by omega)] at f2
      exact ⟨by rw [f1], f2⟩
    all_goals omega
  · have hb : bytesM ⟨2, [], v, c, 0, [], 0⟩ = numB (2 : Nat) ++ (vecB v ++ (numB c.toNat ++ [])) := by unfold bytesM; simp
    have hN := isN_iff.1 g2
    rw [hb, numS_fit1 (by omega) (by omega)] at h1
    injection h1 with a1 a2
    subst a1; subst a2
    rcases h2 with ⟨h, _⟩ | ⟨_, v', s2, c', e1, e2, rfl⟩ | ⟨h, _⟩ | ⟨h, _⟩ | ⟨_, h, _⟩
    · omega
    · rw [vecS_fwd g1] at e1
      injection e1 with a1 a2
      subst a1; subst a2
      rw [numS_fwd hN.1 hN.2 hN.2] at e2
      injection e2 with a1 a2
      refine ⟨?_, a2.symm⟩
      rw [← a1]
      simp only [Ms.mk.injEq, true_and, and_true]
      omega
    all_goals omega
  · have hb : bytesM ⟨3, [], [], 0, t, [], 0⟩ = numB (3 : Nat) ++ (numB t.toNat ++ []) := by unfold bytesM; simp
    have hN := isN_iff.1 g1
    rw [hb, numS_fit1 (by omega) (by omega)] at h1
    injection h1 with a1 a2
    subst a1; subst a2
    rcases h2 with ⟨h, _⟩ | ⟨h, _⟩ | ⟨_, t', e1, rfl⟩ | ⟨h, _⟩ | ⟨_, _, h, _⟩
    · omega
    · omega
    · rw [numS_fwd hN.1 hN.2 hN.2] at e1
      injection e1 with a1 a2
      refine ⟨?_, a2.symm⟩
      rw [← a1]
      simp only [Ms.mk.injEq, true_and, and_true]
      omega
    all_goals omega
  · obtain ⟨p1, p2, p3⟩ := rightE_parts g2
    have hb : bytesM ⟨4, [], [], 0, t, e, x⟩ = numB (4 : Nat) ++ (numB e.length ++ (e.flatMap epB ++ (numB x.toNat ++ (numB t.toNat ++ [])))) := by unfold bytesM epsB; simp
    have hN := isN_iff.1 g1
    have hX := isN_iff.1 g3
    rw [hb, numS_fit1 (by omega) (by omega)] at h1
    injection h1 with a1 a2
    subst a1; subst a2
    rcases h2 with ⟨h, _⟩ | ⟨h, _⟩ | ⟨h, _⟩ | ⟨_, n, s2, L, s3, x', s4, t', e1, e2, e3, e4, e5, rfl⟩ | ⟨_, _, _, h, _⟩
    · omega
    · omega
    · omega
    · rw [numS_fit1 (by omega) (by omega)] at e1
      injection e1 with a1 a2
      subst a2
      obtain ⟨f1, f2⟩ := e3.fwd hd.u (by omega) p2 (by omega)
      rw [List.take_of_length_le (by omega)] at f1
      rw [List.drop_eq_nil_of_le (by omega), List.flatMap_nil, List.nil_append] at f2
      subst f2
      rw [numS_fwd hX.1 hX.2 hX.2] at e4
      injection e4 with b1 b2
      subst b2
      rw [numS_fwd hN.1 hN.2 hN.2] at e5
      injection e5 with c1 c2
      refine ⟨?_, c2.symm⟩
      rw [← b1, ← c1, f1]
      simp only [Ms.mk.injEq, true_and, and_true]
      omega
    · omega
/-- A write that can't be read. -/
theorem RunM.stuck {d : Bd} (hd : d.Ok) {len n : Nat} {s : List UInt8} {m : Ms} {s1 s2 b c : St} {L : List Wt} {y : List UInt8} (hr : rightM m = true) (hs : s = bytesM m) (h1 : numS d.k len (.ok s) = (1, s1)) (h2 : numS 8 len s1 = (n, s2)) (hl : L.length < n) (h3 : WsRun d.t len L s2 b) (h4 : txtS d.t len b = (y, c)) (hy : ∀ w, ¬ IsW y w) : False := by
  obtain ⟨k, w, v, c', t, e, x⟩ := m
  have hk4 := hd.k
  have hkb : 1 ≤ k ∧ k ≤ 4 := by rcases rightM_cases hr with h | h | h | h <;> (have := h.1; omega)
  rw [hs] at h1
  unfold bytesM at h1
  simp only at h1
  rw [numS_fwd (by omega) (by omega) (by omega)] at h1
  injection h1 with a1 a2
  rcases rightM_cases hr with ⟨rfl, g1, _⟩ | ⟨rfl, _⟩ | ⟨rfl, _⟩ | ⟨rfl, _⟩
  · obtain ⟨p1, p2, p3, p4⟩ := rightWs_parts g1
    rw [if_pos rfl] at a2
    have hb : wsB w = numB w.length ++ (w.flatMap wB ++ []) := by unfold wsB; simp [show wB = (fun y => textB (bytesW y)) from rfl]
    rw [hb] at a2
    subst a2
    rw [numS_fit1 (by omega) (by omega)] at h2
    injection h2 with b1 b2
    subst b2
    obtain ⟨d', hd'⟩ := h3.next hd.t p3 (by omega) h4
    exact hy _ hd'
  · simp at a1
  · simp at a1
  · simp at a1
end Go.Proofs.Ytdhgmifgjaedbaa


/- What is held while a message is read. No condition. -/
namespace Go.Proofs.Ytdhgmifgjaedbaa
set_option linter.unusedVariables false
set_option linter.unusedSimpArgs false
open Go.RowKit Px Wr
theorem Px.PH.Le.chg {h q q' : PH} {F : Nat → Prop} (l : PH.Le h q) (c : Chg F q q') (hF : ∀ x, F x → h.top ≤ x) : PH.Le h q' :=
  ⟨Nat.le_trans l.top c.top, fun x k e => c.m x k (l.m x k e) fun f => by have := h.lt _ _ e; have := hF x f; omega⟩
theorem Px.Stays.chg {h h' : PH} {v v' : Value} (s : Stays h h' v v') : Chg (fun x => v.ownBlock = some x) h h' := ⟨s.top, fun x k e n => s.keep x k e n⟩
/-- A write that was read: its vector lies apart. -/
def VecOk (w0 : World) (q : PH) (ib mb rb : Nat) (A : Option Addr) (y : Wp) : Prop := y.1.d.length ≤ y.2.2 ∧ Rv w0 q y.2.1 (ints y.1.d) ∧ (y.1.d ≠ [] → ∀ a, y.2.1 = some a → a.block < q.top ∧ a.block ≠ ib ∧ a.block ≠ mb ∧ a.block ≠ rb ∧ ∀ c, A = some c → a.block ≠ c.block)
theorem VecOk.chg {w0 : World} {q q' : PH} {F : Nat → Prop} {ib mb rb : Nat} {A : Option Addr} {y : Wp} (v : VecOk w0 q ib mb rb A y) (c : Chg F q q') (hF : ∀ x, x < q.top → F x → x = ib ∨ x = mb ∨ x = rb ∨ ∃ c, A = some c ∧ x = c.block) : VecOk w0 q' ib mb rb A y := by
  obtain ⟨h1, h2, h3⟩ := v
  by_cases hd : y.1.d = []
  · exact ⟨h1, by rw [hd]; exact Rv.nil _ _ _, fun h => absurd hd h⟩
  · refine ⟨h1, h2.chg c fun a ea f => ?_, fun _ a ea => ?_⟩
    · obtain ⟨g1, g2, g3, g4, g5⟩ := h3 hd a ea
      rcases hF _ g1 f with e | e | e | ⟨c, e, e2⟩
      · exact g2 e
      · exact g3 e
      · exact g4 e
      · exact g5 c e e2
    · obtain ⟨g1, g2⟩ := h3 hd a ea
      exact ⟨Nat.lt_of_lt_of_le g1 c.top, g2⟩
theorem VecOk.row {w0 : World} {q : PH} {ib mb rb : Nat} {A A' : Option Addr} {y : Wp} (v : VecOk w0 q ib mb rb A y) (hA : ∀ c', A' = some c' → (∃ c, A = some c ∧ c.block = c'.block) ∨ q.top ≤ c'.block) : VecOk w0 q ib mb rb A' y := by
  obtain ⟨h1, h2, h3⟩ := v
  refine ⟨h1, h2, fun hd a ea => ?_⟩
  obtain ⟨g1, g2, g3, g4, g5⟩ := h3 hd a ea
  refine ⟨g1, g2, g3, g4, fun c' e => ?_⟩
  rcases hA c' e with ⟨c, e1, e2⟩ | e1
  · rw [← e2]; exact g5 c e1
  · omega
theorem VecOk.fresh {w0 : World} {q0 q : PH} {ib mb rb : Nat} {A : Option Addr} {y : Wt} {B : Option Addr} {cap : Nat} (h1 : y.d.length ≤ cap) (h2 : Rv w0 q B (ints y.d)) (h3 : ∀ a, B = some a → q0.top ≤ a.block) (hut : w0.heap.size ≤ q0.top) (hi : ib < q0.top) (hm : mb < q0.top) (hr : rb < q0.top) (hA : ∀ c, A = some c → c.block < q0.top) : VecOk w0 q ib mb rb A (y, B, cap) := by
  refine ⟨h1, h2, fun hd a ea => ?_⟩
  have ea : B = some a := ea
  have hf := h3 a ea
  refine ⟨?_, by omega, by omega, by omega, fun c e => by have := hA c e; omega⟩
  obtain ⟨x, l, hl⟩ : ∃ x l, y.d = x :: l := by
    cases hy : y.d with
    | nil => exact absurd hy hd
    | cons x l => exact ⟨x, l, rfl⟩
  obtain ⟨b, o, e, hk⟩ := h2 0 (.int .i64 x) (by rw [hl]; rfl)
  rw [ea] at e
  injection e with e
  subst e
  rcases hk with ⟨k, hk, _⟩ | ⟨hk, _⟩
  · exact q.lt _ _ hk
  · have hf : q0.top ≤ b := hf
    omega
/-- What lies apart from the block of the result. -/
theorem MsR.chg {w0 : World} {q q' : PH} {F : Nat → Prop} {m : Ms} {p : Mp7} (r : MsR w0 q m p) (c : Chg F q q') (hA : ∀ a, p.A = some a → ¬ F a.block) (hB : ∀ a, p.B = some a → ¬ F a.block) (hC : ∀ a, p.C = some a → ¬ F a.block) (hW : ∀ y ∈ p.wp, y.1.d ≠ [] → ∀ a, y.2.1 = some a → ¬ F a.block) : MsR w0 q' m p := by
  refine ⟨r.ws, fun y hy => ?_, r.rw_.chg c hA, r.rv.chg c hB, r.re.chg c hC, r.la, r.lb, r.lc⟩
  obtain ⟨g1, g2⟩ := r.good y hy
  by_cases hd : y.1.d = []
  · exact ⟨g1, by rw [hd]; exact Rv.nil _ _ _⟩
  · exact ⟨g1, g2.chg c (hW y hy hd)⟩
def msZ : Ms := ⟨0, [], [], 0, 0, [], 0⟩
def mpZ : Mp7 := ⟨[], none, none, none, 0, 0, 0⟩
/-- What Decode tells. -/
def DEM (w0 : World) (h : PH) (s : List UInt8) (v : Value) : Prop :=
  (∃ m p, rightM m = true ∧ s = bytesM m ∧ v = .tuple #[.agg (msL m p).toArray, .nilIface] ∧ MsR w0 h m p ∧ Fits m) ∨ ((∀ m, rightM m = true → s ≠ bytesM m) ∧ ∃ ev e, v = .tuple #[.agg (msL msZ mpZ).toArray, ev] ∧ EV h e ev ∧ e.num = 2)
/-- What the document's reader tells. -/
def REM (w0 : World) (h : PH) (s : List UInt8) (v : Value) : Prop :=
  (∃ m p, rightM m = true ∧ s = bytesM m ∧ v = .tuple #[.agg (msL m p).toArray, .bool true] ∧ MsR w0 h m p ∧ Fits m) ∨ ((∀ m, rightM m = true → s ≠ bytesM m) ∧ v = .tuple #[.agg (msL msZ mpZ).toArray, .bool false])
def Wr.St.lenT : St → Nat
  | .ok t => t.length
  | .bad _ => 0
theorem txtS_len {m : Int} {n : Nat} {y : List UInt8} {st st' : St} (h : txtS m n st = (y, st')) : y.length ≤ st.lenT := by
  cases st with
  | bad p => rw [txtS_bad] at h; injection h with h _; rw [← h]; simp
  | ok t =>
    cases hp : txtP t m with
    | none => unfold txtS St.step at h; simp only [hp] at h; injection h with h _; rw [← h]; simp
    | some q =>
      obtain ⟨a, u⟩ := q
      have h2 := (txtP_inv hp).1
      unfold txtS St.step at h; simp only [hp] at h; injection h with h _
      rw [← h]
      show _ ≤ t.length
      rw [h2]
      simp only [List.length_append]; omega
theorem txtS_most {m : Int} (hm : 0 ≤ m) {n : Nat} {y : List UInt8} {st st' : St} (h : txtS m n st = (y, st')) : (y.length : Int) ≤ m := by
  cases st with
  | bad p => rw [txtS_bad] at h; injection h with h _; rw [← h]; simp; exact hm
  | ok t =>
    cases hp : txtP t m with
    | none => unfold txtS St.step at h; simp only [hp] at h; injection h with h _; rw [← h]; simp; exact hm
    | some q =>
      obtain ⟨a, u⟩ := q
      have h2 := (txtP_inv hp).2
      unfold txtS St.step at h; simp only [hp] at h; injection h with h _
      rw [← h]; exact h2
theorem numS_most {m : Int} (hm : 0 ≤ m) {n x : Nat} {st st' : St} (h : numS m n st = (x, st')) : (x : Int) ≤ m := by
  cases st with
  | bad p => unfold numS St.step at h; injection h with h _; omega
  | ok t =>
    cases hp : numP t m with
    | none => unfold numS St.step at h; simp only [hp] at h; injection h with h _; omega
    | some q =>
      obtain ⟨a, u⟩ := q
      have h2 := (numP_inv hp).2.1
      unfold numS St.step at h; simp only [hp] at h; injection h with h _
      omega
end Go.Proofs.Ytdhgmifgjaedbaa


/- Walks: which writes, epochs, messages are alike; Plain; great. No condition. -/
namespace Go.Proofs.Ytdhgmifgjaedbaa
set_option linter.unusedVariables false
set_option linter.unusedSimpArgs false
open Go.RowKit Px Wr
set_option maxRecDepth 20000 in
theorem y_neqEp (x y : Operand) (a c : List UInt8) (b d : Int) {K : Value → Prop} : Yld Try.prog (binS .neq 54 x y (.agg #[str a, .int .i64 b]) (.agg #[str c, .int .i64 d])) K = K (.bool (!(decide (a = c) && decide (b = d)))) := Yld_eq fun w => by
  have hu : Try.prog.underlying 54 = some (.struct (Try.prog.fieldsOf 54)) := by kernel_rfl
  have hg : (eqGuard .neq 54 x y (.agg #[str a, .int .i64 b]) (.agg #[str c, .int .i64 d])).run Try.prog w = .ok () w := run_eqGuard_agg w _ _ x y _ _ (by kernel_rfl)
  have he : (binOp .neq 54 (.agg #[str a, .int .i64 b]) (.agg #[str c, .int .i64 d])).run Try.prog w = .ok (.bool (!(decide (a = c) && decide (b = d)))) w := by
    rw [run_neq_struct, run_equalIn_agg w 9999 _ _ _ hu (by kernel_rfl)]
    have p0 : ∀ (u : List UInt8) (v : Int), (part 9 #[str u, .int .i64 v] 0).run Try.prog w = .ok (str u) w := fun u v => by
      simp [part, isAgg, run_underlying (w := w) Try.underlying9, sizeOf]
    have p1 : ∀ (u : List UInt8) (v : Int), (part 3 #[str u, .int .i64 v] 1).run Try.prog w = .ok (.int .i64 v) w := fun u v => by
      simp [part, isAgg, run_underlying (w := w) Try.underlying3, sizeOf]
    have hs : (Op.equalIn 9999 9 (str a) (str c)).run Try.prog w = .ok (decide (a = c)) w := by
      unfold str
      rw [run_equalIn_string w 9998 9 _ _ Try.underlying9]
      congr 1
      simp only [ByteArray.toList_eq]
      by_cases e : a = c <;> simp [e]
    simp only [Program.fieldsOf, Try.underlying54, Op.eqFields]
    by_cases e1 : a = c
    · subst e1
      simp only [decide_true] at hs
      by_cases e2 : b = d
      · subst e2; simp [Sem.run_pure, p0, p1, hs, Result.andThen_ok, run_equalIn_int w 9998 3 .i64 .i64 _ _ Try.underlying3, Op.eqFields]
      · simp [Sem.run_pure, p0, p1, hs, Result.andThen_ok, run_equalIn_int w 9998 3 .i64 .i64 _ _ Try.underlying3, Op.eqFields, e2]
    · rw [decide_eq_false e1] at hs
      simp [Sem.run_pure, p0, p1, hs, Result.andThen_ok, Op.eqFields, e1]
  unfold binS
  simp only [Sem.run_bind, hg, Result.andThen_ok, he]
set_option maxRecDepth 20000 in
set_option maxHeartbeats 2000000 in
theorem same21_any (w0 : World) (h : PH) (A B : Option Addr) (c d : Nat) (x y : List Ep) (hx : Rv w0 h A (x.flatMap epL)) (hy : Rv w0 h B (y.flatMap epL)) (hc : x.length ≤ c) (hd : y.length ≤ d) (hm : x.length ≤ 1000000) : PCalls Try.prog w0 27 [.slice A x.length c, .slice B y.length d] h fun r h' => r = .bool (decide (x = y)) ∧ h' = h := by
  refine PCalls_low fun hl => ?_
  refine PCalls_body Try.func27 (by kernel_rfl) rfl _ Try.ntmps27 (by kernel_rfl) (by kernel_rfl) _ Try.results27 ?_
  by_cases hlen : x.length = y.length
  rotate_left
  · have e1 : decide (¬ (x.length : Int) = (y.length : Int)) = true := decide_eq_true (by omega)
    have hne : decide (x = y) = false := decide_eq_false fun e => hlen (by rw [e])
    rw [hne]
    simp -dsimp -implicitDefEqProofs (disch := first | omega | assumption | (simp only [Option.isSome_some, Qt0]; done) | (simp only [UInt64.reduceToNat, UInt32.reduceToNat, UInt8.reduceToNat, List.length_cons, List.length_nil, List.length_append, Int.toNat_natCast] <;> omega) | fail) only [Nat.reduceLT, Nat.reduceLeDiff, Nat.reduceEqDiff, ↓reduceIte, Int.reduceLT, Int.reduceLE, Int.reduceToNat, Int.reduceEq, Int.reduceNe, Nat.reduceAdd, UInt8.reduceOfNat, UInt16.reduceOfNat, UInt32.reduceOfNat, UInt64.reduceOfNat, UInt64.reduceToNat, UInt32.reduceToNat, UInt16.reduceToNat, UInt8.reduceToNat, Int.reduceAdd, Int.reduceSub, Int.reduceMul, Nat.reduceMul, Qp0, Qp1, Ql0, Qe0, e1]
    exact ⟨_, PH.Le.refl _, by first | rfl | trivial, rfl⟩
  have e1 : decide (¬ (x.length : Int) = (y.length : Int)) = false := decide_eq_false (by omega)
  simp -dsimp -implicitDefEqProofs (disch := first | omega | assumption | (simp only [Option.isSome_some, Qt0]; done) | (simp only [UInt64.reduceToNat, UInt32.reduceToNat, UInt8.reduceToNat, List.length_cons, List.length_nil, List.length_append, Int.toNat_natCast] <;> omega) | fail) only [Nat.reduceLT, Nat.reduceLeDiff, Nat.reduceEqDiff, ↓reduceIte, Int.reduceLT, Int.reduceLE, Int.reduceToNat, Int.reduceEq, Int.reduceNe, Nat.reduceAdd, UInt8.reduceOfNat, UInt16.reduceOfNat, UInt32.reduceOfNat, UInt64.reduceOfNat, UInt64.reduceToNat, UInt32.reduceToNat, UInt16.reduceToNat, UInt8.reduceToNat, Int.reduceAdd, Int.reduceSub, Int.reduceMul, Nat.reduceMul, Qp0, Qp1, Ql0, Qe0, e1]
  refine PW_loop (fun n f h' => ∃ i : Nat, n + i = x.length ∧ f 0 = some (.slice A x.length c) ∧ f 1 = some (.slice B y.length d) ∧ f 5 = some (.int .i64 i) ∧ (∀ j, j < i → x[j]? = y[j]?) ∧ h' = h) (by kernel_rfl) x.length ⟨0, by omega, ?_, ?_, ?_, fun j hj => by omega, rfl⟩ ?_
  · simp -dsimp -implicitDefEqProofs (disch := first | omega | assumption | (simp only [Option.isSome_some, Qt0]; done) | (simp only [UInt64.reduceToNat, UInt32.reduceToNat, UInt8.reduceToNat, List.length_cons, List.length_nil, List.length_append, Int.toNat_natCast] <;> omega) | fail) only [Nat.reduceLT, Nat.reduceLeDiff, Nat.reduceEqDiff, ↓reduceIte, Int.reduceLT, Int.reduceLE, Int.reduceToNat, Int.reduceEq, Int.reduceNe, Nat.reduceAdd, UInt8.reduceOfNat, UInt16.reduceOfNat, UInt32.reduceOfNat, UInt64.reduceOfNat, UInt64.reduceToNat, UInt32.reduceToNat, UInt16.reduceToNat, UInt8.reduceToNat, Int.reduceAdd, Int.reduceSub, Int.reduceMul, Nat.reduceMul, Qp0, Qp1, Ql0, Qe0]
  · simp -dsimp -implicitDefEqProofs (disch := first | omega | assumption | (simp only [Option.isSome_some, Qt0]; done) | (simp only [UInt64.reduceToNat, UInt32.reduceToNat, UInt8.reduceToNat, List.length_cons, List.length_nil, List.length_append, Int.toNat_natCast] <;> omega) | fail) only [Nat.reduceLT, Nat.reduceLeDiff, Nat.reduceEqDiff, ↓reduceIte, Int.reduceLT, Int.reduceLE, Int.reduceToNat, Int.reduceEq, Int.reduceNe, Nat.reduceAdd, UInt8.reduceOfNat, UInt16.reduceOfNat, UInt32.reduceOfNat, UInt64.reduceOfNat, UInt64.reduceToNat, UInt32.reduceToNat, UInt16.reduceToNat, UInt8.reduceToNat, Int.reduceAdd, Int.reduceSub, Int.reduceMul, Nat.reduceMul, Qp0, Qp1, Ql0, Qe0]
  · simp -dsimp -implicitDefEqProofs (disch := first | omega | assumption | (simp only [Option.isSome_some, Qt0]; done) | (simp only [UInt64.reduceToNat, UInt32.reduceToNat, UInt8.reduceToNat, List.length_cons, List.length_nil, List.length_append, Int.toNat_natCast] <;> omega) | fail) only [Nat.reduceLT, Nat.reduceLeDiff, Nat.reduceEqDiff, ↓reduceIte, Int.reduceLT, Int.reduceLE, Int.reduceToNat, Int.reduceEq, Int.reduceNe, Nat.reduceAdd, UInt8.reduceOfNat, UInt16.reduceOfNat, UInt32.reduceOfNat, UInt64.reduceOfNat, UInt64.reduceToNat, UInt32.reduceToNat, UInt16.reduceToNat, UInt8.reduceToNat, Int.reduceAdd, Int.reduceSub, Int.reduceMul, Nat.reduceMul, Qp0, Qp1, Ql0, Qe0]
    try rfl
  rintro n f h' ⟨i, hni, f0, f1, f5, hall, rfl⟩
  by_cases hi : i < x.length
  rotate_left
  · have e2 : decide ((i : Int) < (x.length : Int)) = false := decide_eq_false (by omega)
    have heq : decide (x = y) = true := decide_eq_true (List.ext_getElem? fun j => by
      by_cases hj : j < i
      · exact hall j hj
      · rw [List.getElem?_eq_none (by omega), List.getElem?_eq_none (by omega)])
    rw [heq]
    simp -dsimp -implicitDefEqProofs (disch := first | omega | assumption | (simp only [Option.isSome_some, Qt0]; done) | (simp only [UInt64.reduceToNat, UInt32.reduceToNat, UInt8.reduceToNat, List.length_cons, List.length_nil, List.length_append, Int.toNat_natCast] <;> omega) | fail) only [Nat.reduceLT, Nat.reduceLeDiff, Nat.reduceEqDiff, ↓reduceIte, Int.reduceLT, Int.reduceLE, Int.reduceToNat, Int.reduceEq, Int.reduceNe, Nat.reduceAdd, UInt8.reduceOfNat, UInt16.reduceOfNat, UInt32.reduceOfNat, UInt64.reduceOfNat, UInt64.reduceToNat, UInt32.reduceToNat, UInt16.reduceToNat, UInt8.reduceToNat, Int.reduceAdd, Int.reduceSub, Int.reduceMul, Nat.reduceMul, Qp0, Qp1, Ql0, Qe0, f0, f1, f5, e2]
    exact ⟨_, PH.Le.refl _, by first | rfl | trivial, rfl⟩
  have e2 : decide ((i : Int) < (x.length : Int)) = true := decide_eq_true (by omega)
  obtain ⟨⟨u, m⟩, hp⟩ : ∃ z, x[i]? = some z := ⟨_, List.getElem?_eq_getElem hi⟩
  obtain ⟨⟨v, k⟩, hq⟩ : ∃ z, y[i]? = some z := ⟨_, List.getElem?_eq_getElem (by omega)⟩
  obtain ⟨b, o, rfl⟩ := hx.addr_ epL_length (by omega) hp
  obtain ⟨b', o', rfl⟩ := hy.addr_ epL_length (by omega) hq
  have hgx := hx.chunk epL_length (by omega) hl hp
  have hgy := hy.chunk epL_length (by omega) hl hq
  unfold epL at hgx hgy
  simp only at hgx hgy
  have hT : (i : Int).toNat = i := Int.toNat_natCast i
  cases he : (decide (u = v) && decide (m = k)) with
  | true =>
    simp -dsimp -implicitDefEqProofs (disch := first | omega | assumption | (simp only [Option.isSome_some, Qt0]; done) | (simp only [UInt64.reduceToNat, UInt32.reduceToNat, UInt8.reduceToNat, List.length_cons, List.length_nil, List.length_append, Int.toNat_natCast] <;> omega) | fail) only [Nat.reduceLT, Nat.reduceLeDiff, Nat.reduceEqDiff, ↓reduceIte, Int.reduceLT, Int.reduceLE, Int.reduceToNat, Int.reduceEq, Int.reduceNe, Nat.reduceAdd, UInt8.reduceOfNat, UInt16.reduceOfNat, UInt32.reduceOfNat, UInt64.reduceOfNat, UInt64.reduceToNat, UInt32.reduceToNat, UInt16.reduceToNat, UInt8.reduceToNat, Int.reduceAdd, Int.reduceSub, Int.reduceMul, Nat.reduceMul, Qp0, Qp1, Ql0, Qe0, f0, f1, f5, e2]
    refine PW_drawn 9 _ (by kernel_rfl) (by kernel_rfl) (by kernel_rfl) (by kernel_rfl) (by kernel_rfl) (fun c f h hq => by simp only [thenC_panic, thenK_panic, inBlk_panic, thenN_panic, vcRet_panic] at hq) (PH.Le.refl _).sub ?_
    simp -dsimp -implicitDefEqProofs (disch := first | omega | assumption | (simp only [Option.isSome_some, Qt0]; done) | (simp only [UInt64.reduceToNat, UInt32.reduceToNat, UInt8.reduceToNat, List.length_cons, List.length_nil, List.length_append, Int.toNat_natCast] <;> omega) | fail) only [Nat.reduceLT, Nat.reduceLeDiff, Nat.reduceEqDiff, ↓reduceIte, Int.reduceLT, Int.reduceLE, Int.reduceToNat, Int.reduceEq, Int.reduceNe, Nat.reduceAdd, UInt8.reduceOfNat, UInt16.reduceOfNat, UInt32.reduceOfNat, UInt64.reduceOfNat, UInt64.reduceToNat, UInt32.reduceToNat, UInt16.reduceToNat, UInt8.reduceToNat, Int.reduceAdd, Int.reduceSub, Int.reduceMul, Nat.reduceMul, Qp0, Qp1, Ql0, Qe0, f0, f1, f5, hgx, hgy, y_neqEp, he]
    simp only [Bool.and_eq_true, decide_eq_true_eq] at he
    refine ⟨n - 1, _, by omega, PH.Le.refl _, i + 1, by omega, by trivial, by trivial, by simp, fun j hj => ?_, rfl⟩
    by_cases hji : j = i
    · subst hji; rw [hp, hq, he.1, he.2]
    · exact hall j (by omega)
  | false =>
    have hne : decide (x = y) = false := decide_eq_false fun e => by
      rw [e, hq] at hp
      injection hp with hp
      injection hp with h1 h2
      rw [h1, h2] at he
      simp at he
    rw [hne]
    simp -dsimp -implicitDefEqProofs (disch := first | omega | assumption | (simp only [Option.isSome_some, Qt0]; done) | (simp only [UInt64.reduceToNat, UInt32.reduceToNat, UInt8.reduceToNat, List.length_cons, List.length_nil, List.length_append, Int.toNat_natCast] <;> omega) | fail) only [Nat.reduceLT, Nat.reduceLeDiff, Nat.reduceEqDiff, ↓reduceIte, Int.reduceLT, Int.reduceLE, Int.reduceToNat, Int.reduceEq, Int.reduceNe, Nat.reduceAdd, UInt8.reduceOfNat, UInt16.reduceOfNat, UInt32.reduceOfNat, UInt64.reduceOfNat, UInt64.reduceToNat, UInt32.reduceToNat, UInt16.reduceToNat, UInt8.reduceToNat, Int.reduceAdd, Int.reduceSub, Int.reduceMul, Nat.reduceMul, Qp0, Qp1, Ql0, Qe0, f0, f1, f5, e2]
    refine PW_drawn 9 _ (by kernel_rfl) (by kernel_rfl) (by kernel_rfl) (by kernel_rfl) (by kernel_rfl) (fun c f h hq => by simp only [thenC_panic, thenK_panic, inBlk_panic, thenN_panic, vcRet_panic] at hq) (PH.Le.refl _).sub ?_
    simp -dsimp -implicitDefEqProofs (disch := first | omega | assumption | (simp only [Option.isSome_some, Qt0]; done) | (simp only [UInt64.reduceToNat, UInt32.reduceToNat, UInt8.reduceToNat, List.length_cons, List.length_nil, List.length_append, Int.toNat_natCast] <;> omega) | fail) only [Nat.reduceLT, Nat.reduceLeDiff, Nat.reduceEqDiff, ↓reduceIte, Int.reduceLT, Int.reduceLE, Int.reduceToNat, Int.reduceEq, Int.reduceNe, Nat.reduceAdd, UInt8.reduceOfNat, UInt16.reduceOfNat, UInt32.reduceOfNat, UInt64.reduceOfNat, UInt64.reduceToNat, UInt32.reduceToNat, UInt16.reduceToNat, UInt8.reduceToNat, Int.reduceAdd, Int.reduceSub, Int.reduceMul, Nat.reduceMul, Qp0, Qp1, Ql0, Qe0, f0, f1, f5, hgx, hgy, y_neqEp, he]
    exact ⟨_, PH.Le.refl _, by first | rfl | trivial, rfl⟩
/-- Lists of writes that are alike. -/
def sameL (a b : List Wt) : Bool := decide (a.length = b.length) && (a.zip b).all fun p => sameW p.1 p.2
theorem sameL_iff : ∀ {a b : List Wt}, sameL a b = true ↔ a = b
  | [], [] => by simp [sameL]
  | [], _ :: _ => by simp [sameL]
  | _ :: _, [] => by simp [sameL]
  | x :: a, y :: b => by
    have := @sameL_iff a b
    unfold sameL at this ⊢
    simp only [List.length_cons, List.zip_cons_cons, List.all_cons, Bool.and_eq_true, decide_eq_true_eq, Nat.add_right_cancel_iff, List.cons.injEq] at this ⊢
    rw [← this, sameW_iff]
    constructor
    · rintro ⟨h1, h2, h3⟩; exact ⟨h2, h1, h3⟩
    · rintro ⟨h1, h2, h3⟩; exact ⟨h2, h1, h3⟩
set_option maxRecDepth 20000 in
set_option maxHeartbeats 2000000 in
theorem sameWs_any (w0 : World) (h : PH) (A B : Option Addr) (c d : Nat) (P Q : List Wp) (hx : Rv w0 h A (P.flatMap wpL)) (hy : Rv w0 h B (Q.flatMap wpL)) (hgP : ∀ y ∈ P, GoodW w0 h y) (hgQ : ∀ y ∈ Q, GoodW w0 h y) (hc : P.length ≤ c) (hd : Q.length ≤ d) (hm : P.length ≤ 1000000) (hdl : ∀ y ∈ P, y.1.d.length ≤ 1000000) : PCalls Try.prog w0 25 [.slice A P.length c, .slice B Q.length d] h fun r h' => r = .bool (sameL (P.map (·.1)) (Q.map (·.1))) ∧ h' = h := by
  refine PCalls_low fun hl => ?_
  refine PCalls_body Try.func25 (by kernel_rfl) rfl _ Try.ntmps25 (by kernel_rfl) (by kernel_rfl) _ Try.results25 ?_
  by_cases hlen : P.length = Q.length
  rotate_left
  · have e1 : decide (¬ (P.length : Int) = (Q.length : Int)) = true := decide_eq_true (by omega)
    have hne : sameL (P.map (·.1)) (Q.map (·.1)) = false := by rw [Bool.eq_false_iff]; intro e; have := congrArg List.length (sameL_iff.1 e); simp at this; omega
    rw [hne]
    simp -dsimp -implicitDefEqProofs (disch := first | omega | assumption | (simp only [Option.isSome_some, Qt0]; done) | (simp only [UInt64.reduceToNat, UInt32.reduceToNat, UInt8.reduceToNat, List.length_cons, List.length_nil, List.length_append, Int.toNat_natCast] <;> omega) | fail) only [Nat.reduceLT, Nat.reduceLeDiff, Nat.reduceEqDiff, ↓reduceIte, Int.reduceLT, Int.reduceLE, Int.reduceToNat, Int.reduceEq, Int.reduceNe, Nat.reduceAdd, UInt8.reduceOfNat, UInt16.reduceOfNat, UInt32.reduceOfNat, UInt64.reduceOfNat, UInt64.reduceToNat, UInt32.reduceToNat, UInt16.reduceToNat, UInt8.reduceToNat, Int.reduceAdd, Int.reduceSub, Int.reduceMul, Nat.reduceMul, Qp0, Qp1, Ql0, Qe0, e1]
    exact ⟨_, PH.Le.refl _, by first | rfl | trivial, rfl⟩
  have e1 : decide (¬ (P.length : Int) = (Q.length : Int)) = false := decide_eq_false (by omega)
  simp -dsimp -implicitDefEqProofs (disch := first | omega | assumption | (simp only [Option.isSome_some, Qt0]; done) | (simp only [UInt64.reduceToNat, UInt32.reduceToNat, UInt8.reduceToNat, List.length_cons, List.length_nil, List.length_append, Int.toNat_natCast] <;> omega) | fail) only [Nat.reduceLT, Nat.reduceLeDiff, Nat.reduceEqDiff, ↓reduceIte, Int.reduceLT, Int.reduceLE, Int.reduceToNat, Int.reduceEq, Int.reduceNe, Nat.reduceAdd, UInt8.reduceOfNat, UInt16.reduceOfNat, UInt32.reduceOfNat, UInt64.reduceOfNat, UInt64.reduceToNat, UInt32.reduceToNat, UInt16.reduceToNat, UInt8.reduceToNat, Int.reduceAdd, Int.reduceSub, Int.reduceMul, Nat.reduceMul, Qp0, Qp1, Ql0, Qe0, e1]
  refine PW_loop (fun n f h' => ∃ i : Nat, n + i = P.length ∧ f 0 = some (.slice A P.length c) ∧ f 1 = some (.slice B Q.length d) ∧ f 5 = some (.int .i64 i) ∧ (∀ j, j < i → (P.map (·.1))[j]? = (Q.map (·.1))[j]?) ∧ h' = h) (by kernel_rfl) P.length ⟨0, by omega, ?_, ?_, ?_, fun j hj => by omega, rfl⟩ ?_
  · simp -dsimp -implicitDefEqProofs (disch := first | omega | assumption | (simp only [Option.isSome_some, Qt0]; done) | (simp only [UInt64.reduceToNat, UInt32.reduceToNat, UInt8.reduceToNat, List.length_cons, List.length_nil, List.length_append, Int.toNat_natCast] <;> omega) | fail) only [Nat.reduceLT, Nat.reduceLeDiff, Nat.reduceEqDiff, ↓reduceIte, Int.reduceLT, Int.reduceLE, Int.reduceToNat, Int.reduceEq, Int.reduceNe, Nat.reduceAdd, UInt8.reduceOfNat, UInt16.reduceOfNat, UInt32.reduceOfNat, UInt64.reduceOfNat, UInt64.reduceToNat, UInt32.reduceToNat, UInt16.reduceToNat, UInt8.reduceToNat, Int.reduceAdd, Int.reduceSub, Int.reduceMul, Nat.reduceMul, Qp0, Qp1, Ql0, Qe0]
  · simp -dsimp -implicitDefEqProofs (disch := first | omega | assumption | (simp only [Option.isSome_some, Qt0]; done) | (simp only [UInt64.reduceToNat, UInt32.reduceToNat, UInt8.reduceToNat, List.length_cons, List.length_nil, List.length_append, Int.toNat_natCast] <;> omega) | fail) only [Nat.reduceLT, Nat.reduceLeDiff, Nat.reduceEqDiff, ↓reduceIte, Int.reduceLT, Int.reduceLE, Int.reduceToNat, Int.reduceEq, Int.reduceNe, Nat.reduceAdd, UInt8.reduceOfNat, UInt16.reduceOfNat, UInt32.reduceOfNat, UInt64.reduceOfNat, UInt64.reduceToNat, UInt32.reduceToNat, UInt16.reduceToNat, UInt8.reduceToNat, Int.reduceAdd, Int.reduceSub, Int.reduceMul, Nat.reduceMul, Qp0, Qp1, Ql0, Qe0]
  · simp -dsimp -implicitDefEqProofs (disch := first | omega | assumption | (simp only [Option.isSome_some, Qt0]; done) | (simp only [UInt64.reduceToNat, UInt32.reduceToNat, UInt8.reduceToNat, List.length_cons, List.length_nil, List.length_append, Int.toNat_natCast] <;> omega) | fail) only [Nat.reduceLT, Nat.reduceLeDiff, Nat.reduceEqDiff, ↓reduceIte, Int.reduceLT, Int.reduceLE, Int.reduceToNat, Int.reduceEq, Int.reduceNe, Nat.reduceAdd, UInt8.reduceOfNat, UInt16.reduceOfNat, UInt32.reduceOfNat, UInt64.reduceOfNat, UInt64.reduceToNat, UInt32.reduceToNat, UInt16.reduceToNat, UInt8.reduceToNat, Int.reduceAdd, Int.reduceSub, Int.reduceMul, Nat.reduceMul, Qp0, Qp1, Ql0, Qe0]
    try rfl
  rintro n f h' ⟨i, hni, f0, f1, f5, hall, rfl⟩
  by_cases hi : i < P.length
  rotate_left
  · have e2 : decide ((i : Int) < (P.length : Int)) = false := decide_eq_false (by omega)
    have heq : sameL (P.map (·.1)) (Q.map (·.1)) = true := sameL_iff.2 (List.ext_getElem? fun j => by
      by_cases hj : j < i
      · exact hall j hj
      · rw [List.getElem?_eq_none (by simp; omega), List.getElem?_eq_none (by simp; omega)])
    rw [heq]
    simp -dsimp -implicitDefEqProofs (disch := first | omega | assumption | (simp only [Option.isSome_some, Qt0]; done) | (simp only [UInt64.reduceToNat, UInt32.reduceToNat, UInt8.reduceToNat, List.length_cons, List.length_nil, List.length_append, Int.toNat_natCast] <;> omega) | fail) only [Nat.reduceLT, Nat.reduceLeDiff, Nat.reduceEqDiff, ↓reduceIte, Int.reduceLT, Int.reduceLE, Int.reduceToNat, Int.reduceEq, Int.reduceNe, Nat.reduceAdd, UInt8.reduceOfNat, UInt16.reduceOfNat, UInt32.reduceOfNat, UInt64.reduceOfNat, UInt64.reduceToNat, UInt32.reduceToNat, UInt16.reduceToNat, UInt8.reduceToNat, Int.reduceAdd, Int.reduceSub, Int.reduceMul, Nat.reduceMul, Qp0, Qp1, Ql0, Qe0, f0, f1, f5, e2]
    exact ⟨_, PH.Le.refl _, by first | rfl | trivial, rfl⟩
  have e2 : decide ((i : Int) < (P.length : Int)) = true := decide_eq_true (by omega)
  obtain ⟨⟨x, Ax, cx⟩, hp⟩ : ∃ z, P[i]? = some z := ⟨_, List.getElem?_eq_getElem hi⟩
  obtain ⟨⟨y, Ay, cy⟩, hq⟩ : ∃ z, Q[i]? = some z := ⟨_, List.getElem?_eq_getElem (by omega)⟩
  obtain ⟨b, o, rfl⟩ := hx.addr_ wpL_length (by omega) hp
  obtain ⟨b', o', rfl⟩ := hy.addr_ wpL_length (by omega) hq
  have hgx := hx.chunk wpL_length (by omega) hl hp
  have hgy := hy.chunk wpL_length (by omega) hl hq
  have hax := hgP _ (List.mem_of_getElem? hp)
  have hay := hgQ _ (List.mem_of_getElem? hq)
  have hxd := hdl _ (List.mem_of_getElem? hp)
  have hpm : (P.map (·.1))[i]? = some x := by rw [List.getElem?_map, hp]; rfl
  have hqm : (Q.map (·.1))[i]? = some y := by rw [List.getElem?_map, hq]; rfl
  have hS := sameW_any w0 h' x y Ax Ay cx cy hax.2 hay.2 hax.1 hay.1 hxd
  unfold wpL wtL at hgx hgy
  unfold wtL at hS
  have hT : (i : Int).toNat = i := Int.toNat_natCast i
  cases he : sameW x y with
  | true =>
    rw [he] at hS
    have hS := Lib.hid hS
    simp -dsimp -implicitDefEqProofs (disch := first | omega | assumption | (simp only [Option.isSome_some, Qt0]; done) | (simp only [UInt64.reduceToNat, UInt32.reduceToNat, UInt8.reduceToNat, List.length_cons, List.length_nil, List.length_append, Int.toNat_natCast] <;> omega) | fail) only [Nat.reduceLT, Nat.reduceLeDiff, Nat.reduceEqDiff, ↓reduceIte, Int.reduceLT, Int.reduceLE, Int.reduceToNat, Int.reduceEq, Int.reduceNe, Nat.reduceAdd, UInt8.reduceOfNat, UInt16.reduceOfNat, UInt32.reduceOfNat, UInt64.reduceOfNat, UInt64.reduceToNat, UInt32.reduceToNat, UInt16.reduceToNat, UInt8.reduceToNat, Int.reduceAdd, Int.reduceSub, Int.reduceMul, Nat.reduceMul, Qp0, Qp1, Ql0, Qe0, f0, f1, f5, e2]
    refine PW_plan [0, 1, 2, 3, 4, 5, 6, 7, 8, 9] h' (by kernel_rfl) (by decide +kernel) (by kernel_rfl) (by kernel_rfl) (by kernel_rfl) (fun c f h hq => by simp only [thenC_panic, thenK_panic, inBlk_panic, thenN_panic, vcRet_panic] at hq) (PH.Le.refl _).sub ?_
    simp -dsimp -implicitDefEqProofs (disch := first | omega | assumption | (simp only [Option.isSome_some, Qt0]; done) | (simp only [UInt64.reduceToNat, UInt32.reduceToNat, UInt8.reduceToNat, List.length_cons, List.length_nil, List.length_append, Int.toNat_natCast] <;> omega) | fail) only [Nat.reduceLT, Nat.reduceLeDiff, Nat.reduceEqDiff, ↓reduceIte, Int.reduceLT, Int.reduceLE, Int.reduceToNat, Int.reduceEq, Int.reduceNe, Nat.reduceAdd, UInt8.reduceOfNat, UInt16.reduceOfNat, UInt32.reduceOfNat, UInt64.reduceOfNat, UInt64.reduceToNat, UInt32.reduceToNat, UInt16.reduceToNat, UInt8.reduceToNat, Int.reduceAdd, Int.reduceSub, Int.reduceMul, Nat.reduceMul, Qp0, Qp1, Ql0, Qe0, f0, f1, f5, hgx, hgy]
    refine hS.out.mono ?_
    rintro v hq ⟨rfl, hz⟩; obtain rfl := hz.symm
    refine ⟨(PH.Le.refl _).sub, ?_⟩
    simp -dsimp -implicitDefEqProofs (disch := first | omega | assumption | (simp only [Option.isSome_some, Qt0]; done) | (simp only [UInt64.reduceToNat, UInt32.reduceToNat, UInt8.reduceToNat, List.length_cons, List.length_nil, List.length_append, Int.toNat_natCast] <;> omega) | fail) only [Nat.reduceLT, Nat.reduceLeDiff, Nat.reduceEqDiff, ↓reduceIte, Int.reduceLT, Int.reduceLE, Int.reduceToNat, Int.reduceEq, Int.reduceNe, Nat.reduceAdd, UInt8.reduceOfNat, UInt16.reduceOfNat, UInt32.reduceOfNat, UInt64.reduceOfNat, UInt64.reduceToNat, UInt32.reduceToNat, UInt16.reduceToNat, UInt8.reduceToNat, Int.reduceAdd, Int.reduceSub, Int.reduceMul, Nat.reduceMul, Qp0, Qp1, Ql0, Qe0, f0, f1, f5]
    have he := sameW_iff.1 he
    refine ⟨n - 1, _, by omega, PH.Le.refl _, i + 1, by omega, by trivial, by trivial, by simp, fun j hj => ?_, rfl⟩
    by_cases hji : j = i
    · subst hji; rw [hpm, hqm, he]
    · exact hall j (by omega)
  | false =>
    have hne : sameL (P.map (·.1)) (Q.map (·.1)) = false := by
      rw [Bool.eq_false_iff]; intro e
      rw [sameL_iff.1 e, hqm] at hpm
      rw [Option.some.inj hpm, sameW_iff.2 rfl] at he
      cases he
    rw [he] at hS
    have hS := Lib.hid hS
    rw [hne]
    simp -dsimp -implicitDefEqProofs (disch := first | omega | assumption | (simp only [Option.isSome_some, Qt0]; done) | (simp only [UInt64.reduceToNat, UInt32.reduceToNat, UInt8.reduceToNat, List.length_cons, List.length_nil, List.length_append, Int.toNat_natCast] <;> omega) | fail) only [Nat.reduceLT, Nat.reduceLeDiff, Nat.reduceEqDiff, ↓reduceIte, Int.reduceLT, Int.reduceLE, Int.reduceToNat, Int.reduceEq, Int.reduceNe, Nat.reduceAdd, UInt8.reduceOfNat, UInt16.reduceOfNat, UInt32.reduceOfNat, UInt64.reduceOfNat, UInt64.reduceToNat, UInt32.reduceToNat, UInt16.reduceToNat, UInt8.reduceToNat, Int.reduceAdd, Int.reduceSub, Int.reduceMul, Nat.reduceMul, Qp0, Qp1, Ql0, Qe0, f0, f1, f5, e2]
    refine PW_plan [0, 1, 2, 3, 4, 5, 6, 7, 8, 9] h' (by kernel_rfl) (by decide +kernel) (by kernel_rfl) (by kernel_rfl) (by kernel_rfl) (fun c f h hq => by simp only [thenC_panic, thenK_panic, inBlk_panic, thenN_panic, vcRet_panic] at hq) (PH.Le.refl _).sub ?_
    simp -dsimp -implicitDefEqProofs (disch := first | omega | assumption | (simp only [Option.isSome_some, Qt0]; done) | (simp only [UInt64.reduceToNat, UInt32.reduceToNat, UInt8.reduceToNat, List.length_cons, List.length_nil, List.length_append, Int.toNat_natCast] <;> omega) | fail) only [Nat.reduceLT, Nat.reduceLeDiff, Nat.reduceEqDiff, ↓reduceIte, Int.reduceLT, Int.reduceLE, Int.reduceToNat, Int.reduceEq, Int.reduceNe, Nat.reduceAdd, UInt8.reduceOfNat, UInt16.reduceOfNat, UInt32.reduceOfNat, UInt64.reduceOfNat, UInt64.reduceToNat, UInt32.reduceToNat, UInt16.reduceToNat, UInt8.reduceToNat, Int.reduceAdd, Int.reduceSub, Int.reduceMul, Nat.reduceMul, Qp0, Qp1, Ql0, Qe0, f0, f1, f5, hgx, hgy]
    refine hS.out.mono ?_
    rintro v hq ⟨rfl, hz⟩; obtain rfl := hz.symm
    refine ⟨(PH.Le.refl _).sub, ?_⟩
    simp -dsimp -implicitDefEqProofs (disch := first | omega | assumption | (simp only [Option.isSome_some, Qt0]; done) | (simp only [UInt64.reduceToNat, UInt32.reduceToNat, UInt8.reduceToNat, List.length_cons, List.length_nil, List.length_append, Int.toNat_natCast] <;> omega) | fail) only [Nat.reduceLT, Nat.reduceLeDiff, Nat.reduceEqDiff, ↓reduceIte, Int.reduceLT, Int.reduceLE, Int.reduceToNat, Int.reduceEq, Int.reduceNe, Nat.reduceAdd, UInt8.reduceOfNat, UInt16.reduceOfNat, UInt32.reduceOfNat, UInt64.reduceOfNat, UInt64.reduceToNat, UInt32.reduceToNat, UInt16.reduceToNat, UInt8.reduceToNat, Int.reduceAdd, Int.reduceSub, Int.reduceMul, Nat.reduceMul, Qp0, Qp1, Ql0, Qe0, f0, f1, f5]
    exact ⟨_, PH.Le.refl _, by first | rfl | trivial, rfl⟩
end Go.Proofs.Ytdhgmifgjaedbaa

