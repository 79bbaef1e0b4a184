/- Parts TaJ, TaK, TaL, Base2, joined. No condition. -/
import Derived.Test.YtdhgmifgjaedbaaM12B
import Derived.Test.YtdhgmifgjaedbaaM13B
import Derived.Test.YtdhgmifgjaedbaaM8B
import Derived.Deep.MidRow
import Derived.Laws.ResultCell
/- Walk: the laws' smallest success. No condition. -/
namespace Go.Proofs.Ytdhgmifgjaedbaa
set_option linter.unusedVariables false
set_option linter.unusedSimpArgs false
open Go.RowKit Px Wr
def msA : Ms := ⟨3, [], [], 0, 300, [], 0⟩
theorem msA_right : rightM msA = true := by
  unfold msA
  rw [rightM_3]; rfl
theorem numB_300 : numB 300 = [172, 2] := by
  rw [numB_large (by omega), numB_small (by omega)]; rfl
theorem msA_bytes : bytesM msA = [3, 172, 2] := by
  have h3 : numB (3 : Int).toNat = [3] := numB_small (by decide)
  have h300 : numB (300 : Int).toNat = [172, 2] := numB_300
  unfold bytesM msA
  simp only [h3, h300]
  rfl
theorem msA_R (w0 : World) (h : PH) : MsR w0 h msA mpZ := ⟨rfl, (fun y hy => by cases hy), Rv.nil _ _ _, Rv.nil _ _ _, Rv.nil _ _ _, Nat.le_refl _, Nat.le_refl _, Nat.le_refl _⟩
theorem msA_F : Fits msA := ⟨by show 0 ≤ 100; omega, by show 0 ≤ 1000; omega, by show 0 ≤ 1000; omega, (fun x hx => by cases hx), (fun x hx => by cases hx)⟩
set_option maxRecDepth 20000 in
set_option maxHeartbeats 4000000 in
theorem awake23_any (w0 : World) (h : PH) : PCalls Try.prog w0 7 [] h fun v h' => v = .bool true ∧ PH.Le h h' := by
  refine PCalls_body Try.func7 (by kernel_rfl) rfl _ Try.ntmps7 (by kernel_rfl) (by kernel_rfl) _ Try.results7 ?_
  have hE := enc23_any w0 h msA mpZ (msA_R w0 h) msA_F
  rw [msA_right, msA_bytes] at hE
  unfold msL msA mpZ at hE
  simp only [List.length_nil] at hE
  simp -dsimp -implicitDefEqProofs (disch := first | omega | assumption | (simp only [Option.isSome_some, Qt0]; done) | (simp only [UInt64.reduceToNat, UInt32.reduceToNat, UInt8.reduceToNat, List.length_cons, List.length_nil, List.length_append, Int.toNat_natCast] <;> omega) | fail) only [Nat.reduceLT, Nat.reduceLeDiff, Nat.reduceEqDiff, ↓reduceIte, Int.reduceLT, Int.reduceLE, Int.reduceToNat, Int.reduceEq, Int.reduceNe, Nat.reduceAdd, UInt8.reduceOfNat, UInt16.reduceOfNat, UInt32.reduceOfNat, UInt64.reduceOfNat, UInt64.reduceToNat, UInt32.reduceToNat, UInt16.reduceToNat, UInt8.reduceToNat, Int.reduceAdd, Int.reduceSub, Int.reduceMul, Nat.reduceMul, Qp0, Qp1, Ql0, Qe0]
  refine hE.mono ?_
  rintro z q1 ⟨hz, hl1⟩
  unfold ENM at hz
  rw [if_pos rfl] at hz
  subst hz
  simp -dsimp -implicitDefEqProofs (disch := first | omega | assumption | (simp only [Option.isSome_some, Qt0]; done) | (simp only [UInt64.reduceToNat, UInt32.reduceToNat, UInt8.reduceToNat, List.length_cons, List.length_nil, List.length_append, Int.toNat_natCast] <;> omega) | fail) only [Nat.reduceLT, Nat.reduceLeDiff, Nat.reduceEqDiff, ↓reduceIte, Int.reduceLT, Int.reduceLE, Int.reduceToNat, Int.reduceEq, Int.reduceNe, Nat.reduceAdd, UInt8.reduceOfNat, UInt16.reduceOfNat, UInt32.reduceOfNat, UInt64.reduceOfNat, UInt64.reduceToNat, UInt32.reduceToNat, UInt16.reduceToNat, UInt8.reduceToNat, Int.reduceAdd, Int.reduceSub, Int.reduceMul, Nat.reduceMul, Qp0, Qp1, Ql0, Qe0]
  refine (dec23_any [3, 172, 2] (by simp) w0 q1).mono ?_
  rintro z q2 ⟨hD, hl2⟩
  rcases hD with ⟨m, p, hr, hb, rfl, _, _⟩ | ⟨hno, _⟩
  rotate_left
  · exact absurd msA_bytes.symm (hno msA msA_right)
  obtain rfl : msA = m := bytesM_inj hr msA_right (by rw [← hb, msA_bytes])
  have ha := msL_one msA p
  unfold msL msA at *
  simp only [List.length_nil] at *
  simp -dsimp -implicitDefEqProofs (disch := first | omega | assumption | (simp only [Option.isSome_some, Qt0]; done) | (simp only [UInt64.reduceToNat, UInt32.reduceToNat, UInt8.reduceToNat, List.length_cons, List.length_nil, List.length_append, Int.toNat_natCast] <;> omega) | fail) only [Nat.reduceLT, Nat.reduceLeDiff, Nat.reduceEqDiff, ↓reduceIte, Int.reduceLT, Int.reduceLE, Int.reduceToNat, Int.reduceEq, Int.reduceNe, Nat.reduceAdd, UInt8.reduceOfNat, UInt16.reduceOfNat, UInt32.reduceOfNat, UInt64.reduceOfNat, UInt64.reduceToNat, UInt32.reduceToNat, UInt16.reduceToNat, UInt8.reduceToNat, Int.reduceAdd, Int.reduceSub, Int.reduceMul, Nat.reduceMul, Qp0, Qp1, Ql0, Qe0]
  refine fun mb hmb => ?_
  have hl3 := (PH.Le.refl q2).new mb ⟨[.int .i64 3, .slice p.A 0 p.a, .slice p.B 0 p.b, .int .i64 0, .int .i64 300, .slice p.C 0 p.c, .int .i64 0], 7⟩ hmb
  simp -dsimp -implicitDefEqProofs (disch := first | omega | assumption | (simp only [Option.isSome_some, Qt0]; done) | (simp only [UInt64.reduceToNat, UInt32.reduceToNat, UInt8.reduceToNat, List.length_cons, List.length_nil, List.length_append, Int.toNat_natCast] <;> omega) | fail) only [Nat.reduceLT, Nat.reduceLeDiff, Nat.reduceEqDiff, ↓reduceIte, Int.reduceLT, Int.reduceLE, Int.reduceToNat, Int.reduceEq, Int.reduceNe, Nat.reduceAdd, UInt8.reduceOfNat, UInt16.reduceOfNat, UInt32.reduceOfNat, UInt64.reduceOfNat, UInt64.reduceToNat, UInt32.reduceToNat, UInt16.reduceToNat, UInt8.reduceToNat, Int.reduceAdd, Int.reduceSub, Int.reduceMul, Nat.reduceMul, Qp0, Qp1, Ql0, Qe0, rd_M, rdM_some, List.set_cons_zero, List.set_cons_succ, List.take_zero, List.drop_succ_cons, List.drop_zero, List.drop_nil, List.nil_append, List.append_nil, List.take_succ_cons, ite_true, PH.new_new]
  exact ⟨_, PH.Le.refl _, by first | rfl | trivial, (hl1.trans hl2).trans hl3⟩
end Go.Proofs.Ytdhgmifgjaedbaa


/- Messages that come in. No condition. -/
namespace Go.Proofs.Ytdhgmifgjaedbaa
set_option linter.unusedVariables false
set_option linter.unusedSimpArgs false
open Go.ChangeShapes Go.WideShapes Go.ChangeAt Go.RowKit Go.Deep Base Px Wr
set_option maxRecDepth 20000
theorem flat_of_rows {α : Type} (g : α → List Value) (m : Nat) : ∀ (L : List α) (xs : List Value), xs.length = L.length * m → (∀ i p, L[i]? = some p → (xs.drop (i * m)).take m = g p) → xs = L.flatMap g
  | [], xs, hl, _ => List.eq_nil_of_length_eq_zero (by simpa using hl)
  | p :: L, xs, hl, h => by
    have h0 := h 0 p rfl
    rw [Nat.zero_mul, List.drop_zero] at h0
    have ih := flat_of_rows g m L (xs.drop m) (by rw [List.length_drop, hl, List.length_cons, Nat.add_mul]; omega) fun i q hq => by
      have := h (i + 1) q (by simpa using hq)
      rw [List.drop_drop, ← this, Nat.add_mul]
      congr 2
      omega
    rw [List.flatMap_cons, ← ih, ← h0, List.take_append_drop]
theorem c_vecM : Try.prog.cellsOf 24 = 1 := by kernel_rfl
theorem c_stM : Try.prog.cellsOf 50 = 2 := by kernel_rfl
theorem c_wtM : Try.prog.cellsOf 52 = 10 := by kernel_rfl
theorem c_epM : Try.prog.cellsOf 54 = 2 := by kernel_rfl
theorem c_wtsM : Try.prog.cellsOf 22 = 1 := by kernel_rfl
theorem c_epsM : Try.prog.cellsOf 25 = 1 := by kernel_rfl
theorem c_msM : Try.prog.cellsOf 27 = 7 := by kernel_rfl
section
variable {H : Type} {enc : TypeId × Value → H} {W : World} {b0 : Nat} {r : Reach} {v : Value} {d : DataW H} {p : List MemPlace}
theorem open_wtL {l : List Value} (hl : l.length = 10) {f : Nat} {y : DataW H × List MemPlace} (h : DataW.trod enc Try.prog W 0 (fun _ => true) true f 52 l = some y) : ∃ p : Wp, l = wpL p ∧ ∀ h, GoodW W h p := by
  obtain ⟨ys, m, _, _, _, hyl, hat⟩ := DataW.trod_struct Try.underlying52 h
  match l, hl with
  | [c0, c1, c2, c3, c4, c5, c6, c7, c8, c9], _ =>
    have hyl2 : ys.length = 9 := hyl
    have t0 := hat 0 ⟨_, _, _, _, _, _, _⟩ rfl
    have t1 := hat 1 ⟨_, _, _, _, _, _, _⟩ rfl
    have t2 := hat 2 ⟨_, _, _, _, _, _, _⟩ rfl
    have t3 := hat 3 ⟨_, _, _, _, _, _, _⟩ rfl
    have t4 := hat 4 ⟨_, _, _, _, _, _, _⟩ rfl
    have t5 := hat 5 ⟨_, _, _, _, _, _, _⟩ rfl
    have t6 := hat 6 ⟨_, _, _, _, _, _, _⟩ rfl
    have t7 := hat 7 ⟨_, _, _, _, _, _, _⟩ rfl
    have t8 := hat 8 ⟨_, _, _, _, _, _, _⟩ rfl
    simp only [c_int, c_str, c_vecM, c_bool, c_stM, List.drop_zero, List.drop_succ_cons, List.take_succ_cons, List.take_zero] at t0 t1 t2 t3 t4 t5 t6 t7 t8
    rw [List.getElem?_eq_getElem (by omega)] at t0 t1 t2 t3 t4 t5 t6 t7 t8
    obtain ⟨zs, m2, _, _, _, hzl, hst⟩ := DataW.trod_struct Try.underlying50 t2
    have hzl2 : zs.length = 2 := hzl
    have q0 := hst 0 ⟨_, _, _, _, _, _, _⟩ rfl
    have q1 := hst 1 ⟨_, _, _, _, _, _, _⟩ rfl
    simp only [c_int, List.drop_zero, List.drop_succ_cons, List.take_succ_cons, List.take_zero] at q0 q1
    rw [List.getElem?_eq_getElem (by omega)] at q0 q1
    obtain ⟨a0, rfl, _⟩ := trod_i64 Try.underlying3 t0
    obtain ⟨a1, rfl, _⟩ := trod_i64 Try.underlying3 t1
    obtain ⟨a2, rfl, _⟩ := trod_i64 Try.underlying3 q0
    obtain ⟨a3, rfl, _⟩ := trod_i64 Try.underlying3 q1
    obtain ⟨A, cap, z, rfl, hz, hr, _⟩ := ints_of_trod Try.underlying24 t3
    obtain ⟨s, rfl, _⟩ := trod_str Try.underlying9 t4
    obtain ⟨k, rfl, _⟩ := trod_str Try.underlying9 t5
    obtain ⟨v, rfl, _⟩ := trod_str Try.underlying9 t6
    obtain ⟨g, rfl⟩ := trod_bool Try.underlying4 t7
    obtain ⟨l, rfl, _⟩ := trod_i64 Try.underlying3 t8
    exact ⟨(⟨a0, a1, a2, a3, z, s, k, v, g, l⟩, A, cap), rfl, fun h => ⟨hz, Rv.par hr h⟩⟩
theorem open_epL {l : List Value} (hl : l.length = 2) {f : Nat} {y : DataW H × List MemPlace} (h : DataW.trod enc Try.prog W 0 (fun _ => true) true f 54 l = some y) : ∃ p : Ep, l = epL p := by
  obtain ⟨ys, m, _, _, _, hyl, hat⟩ := DataW.trod_struct Try.underlying54 h
  have hyl2 : ys.length = 2 := hyl
  match l, hl with
  | [c0, c1], _ =>
    have t0 := hat 0 ⟨_, _, _, _, _, _, _⟩ rfl
    have t1 := hat 1 ⟨_, _, _, _, _, _, _⟩ rfl
    simp only [c_int, c_str, List.drop_zero, List.drop_succ_cons, List.take_succ_cons, List.take_zero] at t0 t1
    rw [List.getElem?_eq_getElem (by omega)] at t0 t1
    obtain ⟨s, rfl, _⟩ := trod_str Try.underlying9 t0
    obtain ⟨a, rfl, _⟩ := trod_i64 Try.underlying3 t1
    exact ⟨⟨s, a⟩, rfl⟩
theorem rows_wt {u : Value} {f : Nat} {y : DataW H × List MemPlace} (h : DataW.trod enc Try.prog W 0 (fun _ => true) true f 22 [u] = some y) :
    ∃ (A : Option Addr) (c : Nat) (z : List Wp), u = .slice A z.length c ∧ z.length ≤ c ∧ (∀ h, Rv W h A (z.flatMap wpL)) ∧ ∀ p ∈ z, ∀ h, GoodW W h p := by
  obtain ⟨A, n, c, xs, rfl, hnc, _, hr, hall⟩ := rd_of_trod Try.underlying22 (by rw [c_wtM]; omega) h
  rw [c_wtM] at hr hall
  obtain ⟨z, hz, hzq⟩ := list_of_all (fun i (p : Wp) => (xs.drop (i * 10)).take 10 = wpL p ∧ ∀ h, GoodW W h p) n fun i hi => by
    obtain ⟨f, y, hy⟩ := hall i hi
    have hl : ((xs.drop (i * 10)).take 10).length = 10 := by rw [List.length_take, List.length_drop, hr.1]; have : (i + 1) * 10 ≤ n * 10 := Nat.mul_le_mul_right _ hi; omega
    exact open_wtL hl hy
  subst hz
  obtain rfl := flat_of_rows wpL 10 z xs hr.1 fun i p hp => (hzq i p hp).1
  have hr1 : Rd W W.heap.size 1 A (z.length * 10) (z.flatMap wpL) := ⟨by rw [hr.1, Nat.mul_one], fun h => hr.2 (by omega)⟩
  refine ⟨A, c, z, rfl, hnc, fun h => Rv.par hr1 h, fun p hp => ?_⟩
  obtain ⟨j, hj, rfl⟩ := List.getElem_of_mem hp
  exact (hzq j _ (List.getElem?_eq_getElem hj)).2
theorem rows_ep {u : Value} {f : Nat} {y : DataW H × List MemPlace} (h : DataW.trod enc Try.prog W 0 (fun _ => true) true f 25 [u] = some y) :
    ∃ (A : Option Addr) (c : Nat) (z : List Ep), u = .slice A z.length c ∧ z.length ≤ c ∧ (∀ h, Rv W h A (z.flatMap epL)) := by
  obtain ⟨A, n, c, xs, rfl, hnc, _, hr, hall⟩ := rd_of_trod Try.underlying25 (by rw [c_epM]; omega) h
  rw [c_epM] at hr hall
  obtain ⟨z, hz, hzq⟩ := list_of_all (fun i (p : Ep) => (xs.drop (i * 2)).take 2 = epL p) n fun i hi => by
    obtain ⟨f, y, hy⟩ := hall i hi
    have hl : ((xs.drop (i * 2)).take 2).length = 2 := by rw [List.length_take, List.length_drop, hr.1]; have : (i + 1) * 2 ≤ n * 2 := Nat.mul_le_mul_right _ hi; omega
    exact open_epL hl hy
  subst hz
  obtain rfl := flat_of_rows epL 2 z xs hr.1 hzq
  have hr1 : Rd W W.heap.size 1 A (z.length * 2) (z.flatMap epL) := ⟨by rw [hr.1, Nat.mul_one], fun h => hr.2 (by omega)⟩
  exact ⟨A, c, z, rfl, hnc, fun h => Rv.par hr1 h⟩
theorem open_ms (hv : Value.okWide Try.prog W r b0 27 v) (h : DataW.Trod enc Try.prog W 0 (fun _ => true) true 27 v d p) :
    ∃ (m : Ms) (q : Mp7), v = .agg (msL m q).toArray ∧ ∀ h, MsR W h m q := by
  obtain ⟨l, n, rfl, hl, hat⟩ := open_fields Try.underlying27 hv h
  rw [c_msM] at hl
  match l, hl with
  | [c0, c1, c2, c3, c4, c5, c6], _ =>
    obtain ⟨_, t0⟩ := hat 0 ⟨_, _, _, _, _, _, _⟩ rfl
    obtain ⟨_, t1⟩ := hat 1 ⟨_, _, _, _, _, _, _⟩ rfl
    obtain ⟨_, t2⟩ := hat 2 ⟨_, _, _, _, _, _, _⟩ rfl
    obtain ⟨_, t3⟩ := hat 3 ⟨_, _, _, _, _, _, _⟩ rfl
    obtain ⟨_, t4⟩ := hat 4 ⟨_, _, _, _, _, _, _⟩ rfl
    obtain ⟨_, t5⟩ := hat 5 ⟨_, _, _, _, _, _, _⟩ rfl
    obtain ⟨_, t6⟩ := hat 6 ⟨_, _, _, _, _, _, _⟩ rfl
    simp only [c_int, c_wtsM, c_vecM, c_epsM, List.drop_zero, List.drop_succ_cons, List.take_succ_cons, List.take_zero] at t0 t1 t2 t3 t4 t5 t6
    obtain ⟨k, rfl, _⟩ := trod_i64 Try.underlying3 t0
    obtain ⟨A, ca, z, rfl, hz, hr, hg⟩ := rows_wt t1
    obtain ⟨B, cb, y, rfl, hy, hry, _⟩ := ints_of_trod Try.underlying24 t2
    obtain ⟨c, rfl, _⟩ := trod_i64 Try.underlying3 t3
    obtain ⟨t, rfl, _⟩ := trod_i64 Try.underlying3 t4
    obtain ⟨C, cc, e, rfl, he, hre⟩ := rows_ep t5
    obtain ⟨x, rfl, _⟩ := trod_i64 Try.underlying3 t6
    refine ⟨⟨k, z.map (·.1), y, c, t, e, x⟩, ⟨z, A, B, C, ca, cb, cc⟩, ?_, fun h => ⟨rfl, fun q hq => hg q hq h, hr h, Rv.par hry h, hre h, ?_, hy, he⟩⟩
    · simp only [msL, List.length_map]
    · simp only [List.length_map]; exact hz
end
end Go.Proofs.Ytdhgmifgjaedbaa


/- How long a message's bytes may be; the message that is none. No condition. -/
namespace Go.Proofs.Ytdhgmifgjaedbaa
set_option linter.unusedVariables false
set_option linter.unusedSimpArgs false
open Go.RowKit Px Wr
theorem msL_len (m : Ms) (p : Mp7) : (msL m p).length = 7 := rfl
theorem bytesM_le {m : Ms} (h : rightM m = true) : (bytesM m).length ≤ 60000 := by
  obtain ⟨k, w, v, c, t, e, x⟩ := m
  rcases rightM_cases h with ⟨rfl, g1, rfl, rfl, rfl, rfl, rfl⟩ | ⟨rfl, rfl, g1, g2, rfl, rfl, rfl⟩ | ⟨rfl, rfl, rfl, rfl, g1, rfl, rfl⟩ | ⟨rfl, rfl, rfl, rfl, g1, g2, g3⟩
  · obtain ⟨p1, p2, p3, p4⟩ := rightWs_parts g1
    have hb : bytesM ⟨1, w, [], 0, 0, [], 0⟩ = numB (1 : Int).toNat ++ (numB w.length ++ w.flatMap wB) := by unfold bytesM wsB; simp [show wB = (fun y => textB (bytesW y)) from rfl]
    rw [hb]
    have h1 := numB_len9 (n := (1 : Int).toNat) (by decide)
    have h2 := numB_len9 (n := w.length) (by omega)
    have h3 := flat_len_K (g := wB) (K := 1009) w (fun y hy => textB_len (bytesW_len (p3 y hy)) (Nat.le_refl _))
    have h4 : w.length * 1009 ≤ 8 * 1009 := Nat.mul_le_mul_right _ p2
    simp only [List.length_append]; omega
  · have hN := isN_iff.1 g2
    have hb : bytesM ⟨2, [], v, c, 0, [], 0⟩ = numB (2 : Int).toNat ++ (vecB v ++ numB c.toNat) := by unfold bytesM; simp
    rw [hb]
    have h1 := numB_len9 (n := (2 : Int).toNat) (by decide)
    have h2 := numB_len9 (n := c.toNat) (by omega)
    have h4 := vecB_len g1
    simp only [List.length_append]; omega
  · have hN := isN_iff.1 g1
    have hb : bytesM ⟨3, [], [], 0, t, [], 0⟩ = numB (3 : Int).toNat ++ numB t.toNat := by unfold bytesM; simp
    rw [hb]
    have h1 := numB_len9 (n := (3 : Int).toNat) (by decide)
    have h2 := numB_len9 (n := t.toNat) (by omega)
    simp only [List.length_append]; omega
  · obtain ⟨p1, p2, p3⟩ := rightE_parts g2
    have hN := isN_iff.1 g1
    have hX := isN_iff.1 g3
    have hb : bytesM ⟨4, [], [], 0, t, e, x⟩ = numB (4 : Int).toNat ++ (numB e.length ++ (e.flatMap epB ++ (numB x.toNat ++ numB t.toNat))) := by unfold bytesM epsB; simp
    rw [hb]
    have h1 := numB_len9 (n := (4 : Int).toNat) (by decide)
    have h2 := numB_len9 (n := e.length) (by omega)
    have h3 := flat_len_K (g := epB) (K := 50) e (fun y hy => epB_len (p2 y hy))
    have h4 : e.length * 50 ≤ 64 * 50 := Nat.mul_le_mul_right _ p1
    have h5 := numB_len9 (n := x.toNat) (by omega)
    have h6 := numB_len9 (n := t.toNat) (by omega)
    simp only [List.length_append]; omega
end Go.Proofs.Ytdhgmifgjaedbaa


/- More lemmas on arguments: elements that are arrays. No condition. -/
namespace Go.Proofs.Ytdhgmifgjaedbaa.Base
set_option linter.unusedVariables false
set_option linter.unusedSimpArgs false
open Go.ChangeShapes Go.WideShapes Go.ChangeAt Go.RowKit Go.Deep

theorem Blk.setCells {b : Nat} {t : TypeId} (vs : List Value) : ∀ (o : Nat) {cs : List Value} {w : World}, Blk w b t cs.toArray → o + vs.length ≤ cs.length → Blk (w.setCells b o vs) b t (cs.take o ++ vs ++ cs.drop (o + vs.length)).toArray := by
  induction vs with
  | nil => intro o cs w h _; simpa [World.setCells] using h
  | cons v vs ih =>
    intro o cs w h hl
    have h1 := h.set_ o v
    rw [List.setIfInBounds_toArray] at h1
    have h2 := ih (o + 1) h1 (by simp at hl ⊢; omega)
    have e : (cs.set o v).take (o + 1) ++ vs ++ (cs.set o v).drop (o + 1 + vs.length) = cs.take o ++ (v :: vs) ++ cs.drop (o + (v :: vs).length) := by
      have ho : o < cs.length := by simp at hl; omega
      rw [List.drop_set_of_lt (by omega), List.take_add_one, List.getElem?_set_self (by omega), List.take_set_of_le (by omega)]
      simp [Nat.add_assoc, Nat.add_comm 1]
    rw [e] at h2
    exact h2
theorem Only.setCells {p : Nat} (vs : List Value) : ∀ (o : Nat) {w w' : World}, Only p w w' → Only p w (w'.setCells p o vs) := by
  induction vs with
  | nil => intro o w w' h; simpa [World.setCells] using h
  | cons v vs ih => intro o w w' h; exact ih (o + 1) (h.trans (Only.setCell w' p o v))

theorem u16_lit {n : Int} (h : (Lit.int .u16 n).wf = true) : ∃ x : UInt16, n = (x.toNat : Int) := by
  obtain ⟨h0, h1⟩ := u16_bounds h
  refine ⟨UInt16.ofNat n.toNat, ?_⟩
  rw [UInt16.toNat_ofNat']
  omega
end Go.Proofs.Ytdhgmifgjaedbaa.Base

