/- Parts TaB, TaC, TaD, joined. No condition. -/
import Derived.Test.YtdhgmifgjaedbaaM10B
/- Walk: the reference's Bytes of a message. No condition. -/
namespace Go.Proofs.Ytdhgmifgjaedbaa
set_option linter.unusedVariables false
set_option linter.unusedSimpArgs false
open Go.RowKit Px Wr
set_option maxRecDepth 20000 in
theorem number23_any (n : Int) (w0 : World) (h : PH) : PCalls Try.prog w0 44 [.int .i64 n] h fun r h' => r = .agg (itL (nI n) none 0).toArray ∧ PH.Le h h' := by
  refine PCalls_body Try.func44 (by kernel_rfl) rfl _ Try.ntmps44 (by kernel_rfl) (by kernel_rfl) _ Try.results44 ?_
  have ha : allOne [.int .i64 0, .int .i64 n, .string ⟨#[]⟩, .bool false, .slice none 0 0] := allOne_of _ rfl
  simp -dsimp -implicitDefEqProofs (disch := first | omega | assumption | (simp only [Option.isSome_some, Qt0]; done) | (simp only [UInt64.reduceToNat, UInt32.reduceToNat, UInt8.reduceToNat, List.length_cons, List.length_nil, List.length_append, Int.toNat_natCast] <;> omega) | fail) only [Nat.reduceLT, Nat.reduceLeDiff, Nat.reduceEqDiff, ↓reduceIte, Int.reduceLT, Int.reduceLE, Int.reduceToNat, Int.reduceEq, Int.reduceNe, Nat.reduceAdd, UInt8.reduceOfNat, UInt16.reduceOfNat, UInt32.reduceOfNat, UInt64.reduceOfNat, UInt64.reduceToNat, UInt32.reduceToNat, UInt16.reduceToNat, UInt8.reduceToNat, Int.reduceAdd, Int.reduceSub, Int.reduceMul, Nat.reduceMul, Qp0, Qp1, Ql0, Qe0]
  refine fun b hb => ?_
  simp -dsimp -implicitDefEqProofs (disch := first | omega | assumption | (simp only [Option.isSome_some, Qt0]; done) | (simp only [UInt64.reduceToNat, UInt32.reduceToNat, UInt8.reduceToNat, List.length_cons, List.length_nil, List.length_append, Int.toNat_natCast] <;> omega) | fail) only [Nat.reduceLT, Nat.reduceLeDiff, Nat.reduceEqDiff, ↓reduceIte, Int.reduceLT, Int.reduceLE, Int.reduceToNat, Int.reduceEq, Int.reduceNe, Nat.reduceAdd, UInt8.reduceOfNat, UInt16.reduceOfNat, UInt32.reduceOfNat, UInt64.reduceOfNat, UInt64.reduceToNat, UInt32.reduceToNat, UInt16.reduceToNat, UInt8.reduceToNat, Int.reduceAdd, Int.reduceSub, Int.reduceMul, Nat.reduceMul, Qp0, Qp1, Ql0, Qe0, rd_M, rdM_some, rdN_new, List.set_cons_zero, List.set_cons_succ, List.take_zero, List.drop_succ_cons, List.drop_zero, List.drop_nil, List.nil_append, List.append_nil, List.take_succ_cons, ite_true, PH.new_new]
  exact ⟨_, PH.Le.refl _, by first | rfl | trivial, (PH.Le.refl h).new _ _ hb⟩
set_option maxRecDepth 20000 in
theorem text23_any (y : List UInt8) (w0 : World) (h : PH) : PCalls Try.prog w0 45 [str y] h fun r h' => r = .agg (itL (tI y) none 0).toArray ∧ PH.Le h h' := by
  refine PCalls_body Try.func45 (by kernel_rfl) rfl _ Try.ntmps45 (by kernel_rfl) (by kernel_rfl) _ Try.results45 ?_
  have ha : allOne [.int .i64 1, .int .i64 0, str y, .bool false, .slice none 0 0] := allOne_of _ rfl
  simp -dsimp -implicitDefEqProofs (disch := first | omega | assumption | (simp only [Option.isSome_some, Qt0]; done) | (simp only [UInt64.reduceToNat, UInt32.reduceToNat, UInt8.reduceToNat, List.length_cons, List.length_nil, List.length_append, Int.toNat_natCast] <;> omega) | fail) only [Nat.reduceLT, Nat.reduceLeDiff, Nat.reduceEqDiff, ↓reduceIte, Int.reduceLT, Int.reduceLE, Int.reduceToNat, Int.reduceEq, Int.reduceNe, Nat.reduceAdd, UInt8.reduceOfNat, UInt16.reduceOfNat, UInt32.reduceOfNat, UInt64.reduceOfNat, UInt64.reduceToNat, UInt32.reduceToNat, UInt16.reduceToNat, UInt8.reduceToNat, Int.reduceAdd, Int.reduceSub, Int.reduceMul, Nat.reduceMul, Qp0, Qp1, Ql0, Qe0]
  refine fun b hb => ?_
  simp -dsimp -implicitDefEqProofs (disch := first | omega | assumption | (simp only [Option.isSome_some, Qt0]; done) | (simp only [UInt64.reduceToNat, UInt32.reduceToNat, UInt8.reduceToNat, List.length_cons, List.length_nil, List.length_append, Int.toNat_natCast] <;> omega) | fail) only [Nat.reduceLT, Nat.reduceLeDiff, Nat.reduceEqDiff, ↓reduceIte, Int.reduceLT, Int.reduceLE, Int.reduceToNat, Int.reduceEq, Int.reduceNe, Nat.reduceAdd, UInt8.reduceOfNat, UInt16.reduceOfNat, UInt32.reduceOfNat, UInt64.reduceOfNat, UInt64.reduceToNat, UInt32.reduceToNat, UInt16.reduceToNat, UInt8.reduceToNat, Int.reduceAdd, Int.reduceSub, Int.reduceMul, Nat.reduceMul, Qp0, Qp1, Ql0, Qe0, rd_M, rdM_some, rdN_new, List.set_cons_zero, List.set_cons_succ, List.take_zero, List.drop_succ_cons, List.drop_zero, List.drop_nil, List.nil_append, List.append_nil, List.take_succ_cons, ite_true, PH.new_new]
  exact ⟨_, PH.Le.refl _, by first | rfl | trivial, (PH.Le.refl h).new _ _ hb⟩
theorem OwnS.one {h : PH} {b sz : Nat} {xs : List Value} (hb : h.top ≤ b) (hl : xs.length = sz) : OwnS h (h.new b ⟨xs, sz⟩) sz (.slice (some ⟨b, 0, none⟩) 1 1) 1 xs := by
  have := @OwnS.zero h b sz hb
  refine ⟨(PH.Le.refl h).new _ _ hb, ⟨by rw [hl, Nat.one_mul], .inr ⟨b, 1, rfl, Nat.le_refl _, by simp [maxLen], by rw [PH.new_m, if_pos rfl, Nat.one_mul]⟩⟩, fun x e => by cases e; exact hb⟩
theorem app_items {P : Program} {t e : TypeId} {z : Value} (hE : El P t e z 5 64) {w0 : World} {q h : PH} {v : Value} {Ls xs : List Ip} {m gb : Nat} {c : Nat} {ty : TypeId} {K : Value → PH → Prop} (how : OwnS q h 5 v Ls.length (Ls.flatMap ipL)) (hm : xs.length = m) (hgb : h.m gb = some ⟨xs.flatMap ipL, m * 5⟩) (hn : Ls.length + m ≤ 1000000)
    (hk : ∀ v' h', OwnS q h' 5 v' (Ls ++ xs).length ((Ls ++ xs).flatMap ipL) → PH.Sub w0 h h' → K v' h') : Does P w0 h (Builtin.append_ #[t, t] ty #[v, .slice (some ⟨gb, 0, none⟩) m c]) K := by
  subst hm
  refine Does_app2 hE how.own (Rs.blk (k := ⟨xs.flatMap ipL, xs.length * 5⟩) hgb (flat_len xs)) (ipL_allOne xs) (by unfold maxLen; omega) (by omega) (fun v' h4 ho hst hsub => ?_)
  have ho' : Own h4 5 v' (Ls ++ xs).length ((Ls ++ xs).flatMap ipL) := by rw [List.length_append, List.flatMap_append]; exact ho
  exact hk v' h4 (how.stays hst ho') hsub
theorem fold_texts : ∀ (w : List Wt) (s : List UInt8), (∀ y ∈ w, rightW y = true) → s.length + w.length * 1009 ≤ 60000 → (w.map fun y => tI (bytesW y)).foldl stepI (s, none) = (s ++ w.flatMap (fun y => textB (bytesW y)), none)
  | [], s, _, _ => by simp
  | y :: w, s, h, hl => by
    rw [List.length_cons, Nat.add_mul] at hl
    have hb := bytesW_len (h y (List.mem_cons_self ..))
    have ht := textB_len hb (Nat.le_refl _)
    rw [List.map_cons, List.foldl_cons, step_t, textM_ok s _ hb (by omega), fold_texts w _ (fun z hz => h z (List.mem_cons_of_mem _ hz)) (by rw [List.length_append]; omega), List.flatMap_cons, List.append_assoc]
theorem fold_eps : ∀ (e : List Ep) (s : List UInt8), (∀ y ∈ e, rightEp y = true) → s.length + e.length * 50 ≤ 60000 → (e.flatMap fun p => [tI p.u, nI p.n]).foldl stepI (s, none) = (s ++ e.flatMap epB, none)
  | [], s, _, _ => by simp
  | ⟨u, n⟩ :: e, s, h, hl => by
    rw [List.length_cons, Nat.add_mul] at hl
    have hr := rightEp_iff.1 (h ⟨u, n⟩ (List.mem_cons_self ..))
    have ht := epB_len (h ⟨u, n⟩ (List.mem_cons_self ..))
    have ht2 := ht
    unfold epB at ht2
    rw [List.length_append] at ht2
    simp only at ht2
    rw [List.flatMap_cons, List.foldl_append, List.foldl_cons, List.foldl_cons, List.foldl_nil]
    simp only
    rw [step_t, textM_ok s _ (by omega) (by omega), step_n, numM_ok _ n (by omega) (by omega) (by rw [List.length_append]; omega)]
    rw [fold_eps e _ (fun z hz => h z (List.mem_cons_of_mem _ hz)) (by simp only [List.length_append]; omega), List.flatMap_cons]
    simp [epB]
def eIp (e : List Ep) : List Ip := e.flatMap fun p => [(tI p.u, none, 0), (nI p.n, none, 0)]
theorem eIp_map : ∀ (e : List Ep), (eIp e).map (·.1) = e.flatMap fun p => [tI p.u, nI p.n]
  | [] => rfl
  | p :: e => by
    have := eIp_map e
    unfold eIp at this ⊢
    rw [List.flatMap_cons, List.map_append, this, List.flatMap_cons]; rfl
theorem eIp_len : ∀ (e : List Ep), (eIp e).length = e.length * 2
  | [] => rfl
  | p :: e => by
    have := eIp_len e
    unfold eIp at this ⊢
    rw [List.flatMap_cons, List.length_append, this, List.length_cons]; simp; omega
set_option maxRecDepth 20000 in
set_option maxHeartbeats 8000000 in
theorem bytes23_any (w0 : World) (h : PH) (m : Ms) (p : Mp7) (hR : MsR w0 h m p) (hF : Fits m) (hb : rightM m = true) : PCalls Try.prog w0 16 [.agg (msL m p).toArray] h fun r h' => r = str (bytesM m) ∧ PH.Le h h' := by
  refine PCalls_upL fun q0 hlq hlow hut => ?_
  refine PCalls_body Try.func16 (by kernel_rfl) rfl _ Try.ntmps16 (by kernel_rfl) (by kernel_rfl) _ Try.results16 ?_
  have hR := hR.more hlq
  obtain ⟨k, w, v, c, t, e, x⟩ := m
  obtain ⟨wp, A, B, C, ca, cb, cc⟩ := p
  unfold msL
  simp only
  simp -dsimp -implicitDefEqProofs (disch := first | omega | assumption | (simp only [Option.isSome_some, Qt0]; done) | (simp only [UInt64.reduceToNat, UInt32.reduceToNat, UInt8.reduceToNat, List.length_cons, List.length_nil, List.length_append, Int.toNat_natCast] <;> omega) | fail) only [Nat.reduceLT, Nat.reduceLeDiff, Nat.reduceEqDiff, ↓reduceIte, Int.reduceLT, Int.reduceLE, Int.reduceToNat, Int.reduceEq, Int.reduceNe, Nat.reduceAdd, UInt8.reduceOfNat, UInt16.reduceOfNat, UInt32.reduceOfNat, UInt64.reduceOfNat, UInt64.reduceToNat, UInt32.reduceToNat, UInt16.reduceToNat, UInt8.reduceToNat, Int.reduceAdd, Int.reduceSub, Int.reduceMul, Nat.reduceMul, Qp0, Qp1, Ql0, Qe0]
  refine fun mb hmb => ?_
  have hmbt : q0.top ≤ mb := hmb
  have hle0 := (PH.Le.refl q0).new mb ⟨[.int .i64 k, .slice A w.length ca, .slice B v.length cb, .int .i64 c, .int .i64 t, .slice C e.length cc, .int .i64 x], 7⟩ hmb
  obtain ⟨q, hq⟩ : ∃ q, q0.new mb ⟨[.int .i64 k, .slice A w.length ca, .slice B v.length cb, .int .i64 c, .int .i64 t, .slice C e.length cc, .int .i64 x], 7⟩ = q := ⟨_, rfl⟩
  have hm : q.m mb = some ⟨[.int .i64 k, .slice A w.length ca, .slice B v.length cb, .int .i64 c, .int .i64 t, .slice C e.length cc, .int .i64 x], 7⟩ := by rw [← hq, PH.new_m, if_pos rfl]
  rw [hq] at hle0
  have hle := hlq.trans hle0
  simp -dsimp -implicitDefEqProofs (disch := first | omega | assumption | (simp only [Option.isSome_some, Qt0]; done) | (simp only [UInt64.reduceToNat, UInt32.reduceToNat, UInt8.reduceToNat, List.length_cons, List.length_nil, List.length_append, Int.toNat_natCast] <;> omega) | fail) only [Nat.reduceLT, Nat.reduceLeDiff, Nat.reduceEqDiff, ↓reduceIte, Int.reduceLT, Int.reduceLE, Int.reduceToNat, Int.reduceEq, Int.reduceNe, Nat.reduceAdd, UInt8.reduceOfNat, UInt16.reduceOfNat, UInt32.reduceOfNat, UInt64.reduceOfNat, UInt64.reduceToNat, UInt32.reduceToNat, UInt16.reduceToNat, UInt8.reduceToNat, Int.reduceAdd, Int.reduceSub, Int.reduceMul, Nat.reduceMul, Qp0, Qp1, Ql0, Qe0, hq, rd_M, rdM_some, hm]
  have hR2 := hR.more hle0
  obtain ⟨g1, g2, g3, g4, g5, g6, g7, g8⟩ := hR2
  obtain ⟨F1, F2, F3, F4, F5⟩ := hF
  simp only at g1 g2 g3 g4 g5 g6 g7 g8 F1 F2 F3 F4 F5
  have hutq : w0.heap.size ≤ q.top := by have := hle0.top; omega
  have hkb : 1 ≤ k ∧ k ≤ 4 := by rcases rightM_cases hb with h | h | h | h <;> (have := h.1; omega)
  clear hq
  refine (number23_any k w0 q).mono ?_
  rintro r q2 ⟨rfl, hl2⟩
  simp -dsimp -implicitDefEqProofs (disch := first | omega | assumption | (simp only [Option.isSome_some, Qt0]; done) | (simp only [UInt64.reduceToNat, UInt32.reduceToNat, UInt8.reduceToNat, List.length_cons, List.length_nil, List.length_append, Int.toNat_natCast] <;> omega) | fail) only [Nat.reduceLT, Nat.reduceLeDiff, Nat.reduceEqDiff, ↓reduceIte, Int.reduceLT, Int.reduceLE, Int.reduceToNat, Int.reduceEq, Int.reduceNe, Nat.reduceAdd, UInt8.reduceOfNat, UInt16.reduceOfNat, UInt32.reduceOfNat, UInt64.reduceOfNat, UInt64.reduceToNat, UInt32.reduceToNat, UInt16.reduceToNat, UInt8.reduceToNat, Int.reduceAdd, Int.reduceSub, Int.reduceMul, Nat.reduceMul, Qp0, Qp1, Ql0, Qe0]
  refine Does_one (v := .agg (itL (nI k) none 0).toArray) el_it rfl (by omega) fun gb hgb => ?_
  have how1 : OwnS q2 (q2.new gb ⟨(Value.agg (itL (nI k) none 0).toArray).cells.toList, 5⟩) 5 (.slice (some ⟨gb, 0, none⟩) 1 1) [((nI k, none, 0) : Ip)].length ([((nI k, none, 0) : Ip)].flatMap ipL) := OwnS.one (xs := ipL (nI k, none, 0)) hgb rfl
  generalize q2.new gb ⟨(Value.agg (itL (nI k) none 0).toArray).cells.toList, 5⟩ = q3 at *
  have hm2 := hl2.m _ _ hm
  have hle2 := hle.trans hl2
  have hgN : ∀ (hh : PH) (n : Int), n ≤ 9223372036854775807 → Good w0 hh (nI n, none, 0) ∧ Fine (nI n) := fun hh n hn => ⟨⟨hn, by show 0 ≤ 0; omega, Rv.nil _ _ _⟩, by show (0 : Int) ≤ 0; omega, by show (0 : Int) ≤ 3; omega, by show 0 ≤ 70000; omega, by show 0 ≤ 100; omega⟩
  have hgT : ∀ (hh : PH) (y : List UInt8), y.length ≤ 1000 → Good w0 hh (tI y, none, 0) ∧ Fine (tI y) := fun hh y hy => ⟨⟨by show (0 : Int) ≤ _; omega, by show 0 ≤ 0; omega, Rv.nil _ _ _⟩, by show (0 : Int) ≤ 1; omega, by show (1 : Int) ≤ 3; omega, by show y.length ≤ 70000; omega, by show 0 ≤ 100; omega⟩
  have hk9 := numB_len9 (n := k.toNat) (by omega)
  rcases rightM_cases hb with ⟨rfl, h1, rfl, rfl, rfl, rfl, rfl⟩ | ⟨rfl, rfl, h1, h2, rfl, rfl, rfl⟩ | ⟨rfl, rfl, rfl, rfl, h1, rfl, rfl⟩ | ⟨rfl, rfl, rfl, rfl, h1, h2, h3⟩
  · obtain ⟨p1, p2, p3, p4⟩ := rightWs_parts h1
    have hwl : wp.length = w.length := by rw [← g1, List.length_map]
    have hl9 := numB_len9 (n := w.length) (by omega)
    have hbm : bytesM ⟨1, w, [], 0, 0, [], 0⟩ = numB (1 : Int).toNat ++ numB w.length ++ w.flatMap (fun y => textB (bytesW y)) := by unfold bytesM wsB; simp
    have hmq := how1.le.m _ _ hm2
    simp -dsimp -implicitDefEqProofs (disch := first | omega | assumption | (simp only [Option.isSome_some, Qt0]; done) | (simp only [UInt64.reduceToNat, UInt32.reduceToNat, UInt8.reduceToNat, List.length_cons, List.length_nil, List.length_append, Int.toNat_natCast] <;> omega) | fail) only [Nat.reduceLT, Nat.reduceLeDiff, Nat.reduceEqDiff, ↓reduceIte, Int.reduceLT, Int.reduceLE, Int.reduceToNat, Int.reduceEq, Int.reduceNe, Nat.reduceAdd, UInt8.reduceOfNat, UInt16.reduceOfNat, UInt32.reduceOfNat, UInt64.reduceOfNat, UInt64.reduceToNat, UInt32.reduceToNat, UInt16.reduceToNat, UInt8.reduceToNat, Int.reduceAdd, Int.reduceSub, Int.reduceMul, Nat.reduceMul, Qp0, Qp1, Ql0, Qe0, rd_M, rdM_some, hmq]
    refine (number23_any w.length w0 _).mono ?_
    rintro r qa ⟨rfl, hla⟩
    simp -dsimp -implicitDefEqProofs (disch := first | omega | assumption | (simp only [Option.isSome_some, Qt0]; done) | (simp only [UInt64.reduceToNat, UInt32.reduceToNat, UInt8.reduceToNat, List.length_cons, List.length_nil, List.length_append, Int.toNat_natCast] <;> omega) | fail) only [Nat.reduceLT, Nat.reduceLeDiff, Nat.reduceEqDiff, ↓reduceIte, Int.reduceLT, Int.reduceLE, Int.reduceToNat, Int.reduceEq, Int.reduceNe, Nat.reduceAdd, UInt8.reduceOfNat, UInt16.reduceOfNat, UInt32.reduceOfNat, UInt64.reduceOfNat, UInt64.reduceToNat, UInt32.reduceToNat, UInt16.reduceToNat, UInt8.reduceToNat, Int.reduceAdd, Int.reduceSub, Int.reduceMul, Nat.reduceMul, Qp0, Qp1, Ql0, Qe0]
    refine Does_one (v := .agg (itL (nI w.length) none 0).toArray) el_it rfl (by omega) fun gc hgc => ?_
    have hlb := hla.trans ((PH.Le.refl qa).new gc ⟨(Value.agg (itL (nI w.length) none 0).toArray).cells.toList, 5⟩ hgc)
    have hgm : (qa.new gc ⟨(Value.agg (itL (nI w.length) none 0).toArray).cells.toList, 5⟩).m gc = some ⟨[((nI w.length, none, 0) : Ip)].flatMap ipL, 1 * 5⟩ := by rw [PH.new_m, if_pos rfl]; rfl
    generalize qa.new gc ⟨(Value.agg (itL (nI w.length) none 0).toArray).cells.toList, 5⟩ = qb at *
    have howb := how1.more hlb
    simp -dsimp -implicitDefEqProofs (disch := first | omega | assumption | (simp only [Option.isSome_some, Qt0]; done) | (simp only [UInt64.reduceToNat, UInt32.reduceToNat, UInt8.reduceToNat, List.length_cons, List.length_nil, List.length_append, Int.toNat_natCast] <;> omega) | fail) only [Nat.reduceLT, Nat.reduceLeDiff, Nat.reduceEqDiff, ↓reduceIte, Int.reduceLT, Int.reduceLE, Int.reduceToNat, Int.reduceEq, Int.reduceNe, Nat.reduceAdd, UInt8.reduceOfNat, UInt16.reduceOfNat, UInt32.reduceOfNat, UInt64.reduceOfNat, UInt64.reduceToNat, UInt32.reduceToNat, UInt16.reduceToNat, UInt8.reduceToNat, Int.reduceAdd, Int.reduceSub, Int.reduceMul, Nat.reduceMul, Qp0, Qp1, Ql0, Qe0]
    refine app_items el_it (Ls := [(nI 1, none, 0)]) (xs := [(nI w.length, none, 0)]) howb rfl hgm (by simp) (fun v1 hx1 how1 hsub1 => ?_)
    clear howb hgm hlb hgc hla
    have hmq := how1.le.m _ _ hm2
    simp -dsimp -implicitDefEqProofs (disch := first | omega | assumption | (simp only [Option.isSome_some, Qt0]; done) | (simp only [UInt64.reduceToNat, UInt32.reduceToNat, UInt8.reduceToNat, List.length_cons, List.length_nil, List.length_append, Int.toNat_natCast] <;> omega) | fail) only [Nat.reduceLT, Nat.reduceLeDiff, Nat.reduceEqDiff, ↓reduceIte, Int.reduceLT, Int.reduceLE, Int.reduceToNat, Int.reduceEq, Int.reduceNe, Nat.reduceAdd, UInt8.reduceOfNat, UInt16.reduceOfNat, UInt32.reduceOfNat, UInt64.reduceOfNat, UInt64.reduceToNat, UInt32.reduceToNat, UInt16.reduceToNat, UInt8.reduceToNat, Int.reduceAdd, Int.reduceSub, Int.reduceMul, Nat.reduceMul, Qp0, Qp1, Ql0, Qe0]
    refine PW_loopL (fun n f h' => ∃ (i : Nat) (v : Value), n + i = w.length ∧ f 1 = some (.pointer (some ⟨mb, 0, none⟩)) ∧ f 3 = some v ∧ f 4 = some (.int .i64 i) ∧ OwnS q2 h' 5 v ([((nI 1, none, 0) : Ip)] ++ [(nI w.length, none, 0)] ++ (w.take i).map fun y => (tI (bytesW y), none, 0)).length (([((nI 1, none, 0) : Ip)] ++ [(nI w.length, none, 0)] ++ (w.take i).map fun y => (tI (bytesW y), none, 0)).flatMap ipL)) (by kernel_rfl) w.length ⟨0, _, by omega, ?_, ?_, ?_, by simpa using how1⟩ ?_
    · simp -dsimp -implicitDefEqProofs (disch := first | omega | assumption | (simp only [Option.isSome_some, Qt0]; done) | (simp only [UInt64.reduceToNat, UInt32.reduceToNat, UInt8.reduceToNat, List.length_cons, List.length_nil, List.length_append, Int.toNat_natCast] <;> omega) | fail) only [Nat.reduceLT, Nat.reduceLeDiff, Nat.reduceEqDiff, ↓reduceIte, Int.reduceLT, Int.reduceLE, Int.reduceToNat, Int.reduceEq, Int.reduceNe, Nat.reduceAdd, UInt8.reduceOfNat, UInt16.reduceOfNat, UInt32.reduceOfNat, UInt64.reduceOfNat, UInt64.reduceToNat, UInt32.reduceToNat, UInt16.reduceToNat, UInt8.reduceToNat, Int.reduceAdd, Int.reduceSub, Int.reduceMul, Nat.reduceMul, Qp0, Qp1, Ql0, Qe0]
    · simp -dsimp -implicitDefEqProofs (disch := first | omega | assumption | (simp only [Option.isSome_some, Qt0]; done) | (simp only [UInt64.reduceToNat, UInt32.reduceToNat, UInt8.reduceToNat, List.length_cons, List.length_nil, List.length_append, Int.toNat_natCast] <;> omega) | fail) only [Nat.reduceLT, Nat.reduceLeDiff, Nat.reduceEqDiff, ↓reduceIte, Int.reduceLT, Int.reduceLE, Int.reduceToNat, Int.reduceEq, Int.reduceNe, Nat.reduceAdd, UInt8.reduceOfNat, UInt16.reduceOfNat, UInt32.reduceOfNat, UInt64.reduceOfNat, UInt64.reduceToNat, UInt32.reduceToNat, UInt16.reduceToNat, UInt8.reduceToNat, Int.reduceAdd, Int.reduceSub, Int.reduceMul, Nat.reduceMul, Qp0, Qp1, Ql0, Qe0]
    · simp -dsimp -implicitDefEqProofs (disch := first | omega | assumption | (simp only [Option.isSome_some, Qt0]; done) | (simp only [UInt64.reduceToNat, UInt32.reduceToNat, UInt8.reduceToNat, List.length_cons, List.length_nil, List.length_append, Int.toNat_natCast] <;> omega) | fail) only [Nat.reduceLT, Nat.reduceLeDiff, Nat.reduceEqDiff, ↓reduceIte, Int.reduceLT, Int.reduceLE, Int.reduceToNat, Int.reduceEq, Int.reduceNe, Nat.reduceAdd, UInt8.reduceOfNat, UInt16.reduceOfNat, UInt32.reduceOfNat, UInt64.reduceOfNat, UInt64.reduceToNat, UInt32.reduceToNat, UInt16.reduceToNat, UInt8.reduceToNat, Int.reduceAdd, Int.reduceSub, Int.reduceMul, Nat.reduceMul, Qp0, Qp1, Ql0, Qe0]
      try rfl
    rintro n f h' ⟨i, v, hni, f1, f3, f4, how1⟩ hlow'
    have hmq := how1.le.m _ _ hm2
    by_cases hi : i < w.length
    rotate_left
    · have e2 : decide ((i : Int) < (w.length : Int)) = false := decide_eq_false (by omega)
      rw [List.take_of_length_le (by omega)] at how1
      have hch : writtenM (List.map (fun q : Ip => q.1) ([((nI 1, none, 0) : Ip)] ++ [(nI w.length, none, 0)] ++ w.map fun y => (tI (bytesW y), none, 0))) = (numB (1 : Int).toNat ++ numB w.length ++ w.flatMap (fun y => textB (bytesW y)), none) := by
        have hmm : (List.map (fun q : Ip => q.1) ([((nI 1, none, 0) : Ip)] ++ [(nI w.length, none, 0)] ++ w.map fun y => (tI (bytesW y), none, 0))) = [nI 1, nI w.length] ++ w.map fun y => tI (bytesW y) := by simp
        rw [hmm]
        unfold writtenM
        rw [List.foldl_append, List.foldl_cons, List.foldl_cons, List.foldl_nil, step_n, step_n, numM_ok [] 1 (by omega) (by omega) (by simp), numM_ok _ w.length (by omega) (by omega) (by simp only [List.nil_append]; omega)]
        rw [fold_texts w _ p3 (by simp only [List.nil_append, List.length_append, Int.toNat_natCast]; omega)]
        simp
      simp -dsimp -implicitDefEqProofs (disch := first | omega | assumption | (simp only [Option.isSome_some, Qt0]; done) | (simp only [UInt64.reduceToNat, UInt32.reduceToNat, UInt8.reduceToNat, List.length_cons, List.length_nil, List.length_append, Int.toNat_natCast] <;> omega) | fail) only [Nat.reduceLT, Nat.reduceLeDiff, Nat.reduceEqDiff, ↓reduceIte, Int.reduceLT, Int.reduceLE, Int.reduceToNat, Int.reduceEq, Int.reduceNe, Nat.reduceAdd, UInt8.reduceOfNat, UInt16.reduceOfNat, UInt32.reduceOfNat, UInt64.reduceOfNat, UInt64.reduceToNat, UInt32.reduceToNat, UInt16.reduceToNat, UInt8.reduceToNat, Int.reduceAdd, Int.reduceSub, Int.reduceMul, Nat.reduceMul, Qp0, Qp1, Ql0, Qe0, f1, f3, f4, e2, rd_M, rdM_some, hmq]
      obtain ⟨A9, c9, rfl, _⟩ := how1.own.len
      have hIt := Items_own (w0 := w0) (L := [((nI 1, none, 0) : Ip)] ++ [(nI w.length, none, 0)] ++ w.map fun y => (tI (bytesW y), none, 0)) how1.own (fun p hp => by
        rcases List.mem_append.1 hp with hp | hp
        · rcases List.mem_append.1 hp with hp | hp
          · obtain rfl := List.mem_singleton.1 hp; exact hgN _ _ (by omega)
          · obtain rfl := List.mem_singleton.1 hp; exact hgN _ _ (by omega)
        · obtain ⟨y, hy, rfl⟩ := List.mem_map.1 hp
          exact hgT _ _ (bytesW_len (p3 y hy)))
      have hW := written_any w0 _ A9 c9 _ (by simp [eIp_len] <;> omega) hIt
      rw [List.length_map] at hW
      refine hW.mono ?_
      rintro z9 q9 ⟨hv, hl9⟩
      rw [hch] at hv
      obtain rfl : z9 = .tuple #[str (numB (1 : Int).toNat ++ numB w.length ++ w.flatMap (fun y => textB (bytesW y))), .int .i64 0, .int .i64 0] := hv
      simp -dsimp -implicitDefEqProofs (disch := first | omega | assumption | (simp only [Option.isSome_some, Qt0]; done) | (simp only [UInt64.reduceToNat, UInt32.reduceToNat, UInt8.reduceToNat, List.length_cons, List.length_nil, List.length_append, Int.toNat_natCast] <;> omega) | fail) only [Nat.reduceLT, Nat.reduceLeDiff, Nat.reduceEqDiff, ↓reduceIte, Int.reduceLT, Int.reduceLE, Int.reduceToNat, Int.reduceEq, Int.reduceNe, Nat.reduceAdd, UInt8.reduceOfNat, UInt16.reduceOfNat, UInt32.reduceOfNat, UInt64.reduceOfNat, UInt64.reduceToNat, UInt32.reduceToNat, UInt16.reduceToNat, UInt8.reduceToNat, Int.reduceAdd, Int.reduceSub, Int.reduceMul, Nat.reduceMul, Qp0, Qp1, Ql0, Qe0]
      exact ⟨_, PH.Le.refl _, by rw [hbm]; first | rfl | trivial, hle2.trans (how1.le.trans hl9)⟩
    have e2 : decide ((i : Int) < (w.length : Int)) = true := decide_eq_true (by omega)
    obtain ⟨⟨y, Ai, ci⟩, hx⟩ : ∃ x, wp[i]? = some x := ⟨_, List.getElem?_eq_getElem (by omega)⟩
    have hwx : w[i]? = some y := by rw [← g1, List.getElem?_map, hx]; rfl
    have hry := p3 y (List.mem_of_getElem? hwx)
    obtain ⟨b, o, rfl⟩ := g3.addr_ wpL_length (by omega) hx
    have hrd := (g3.more (hl2.trans how1.le)).chunk wpL_length (by omega) hlow' hx
    have hgx := (g2 _ (List.mem_of_getElem? hx)).more (hl2.trans how1.le)
    have hE := bytesW_any w0 h' y Ai ci hgx.2 hgx.1 hry
    unfold wpL wtL at hrd
    unfold wtL at hE
    simp only at hrd hE
    have hT : (i : Int).toNat = i := Int.toNat_natCast i
    simp -dsimp -implicitDefEqProofs (disch := first | omega | assumption | (simp only [Option.isSome_some, Qt0]; done) | (simp only [UInt64.reduceToNat, UInt32.reduceToNat, UInt8.reduceToNat, List.length_cons, List.length_nil, List.length_append, Int.toNat_natCast] <;> omega) | fail) only [Nat.reduceLT, Nat.reduceLeDiff, Nat.reduceEqDiff, ↓reduceIte, Int.reduceLT, Int.reduceLE, Int.reduceToNat, Int.reduceEq, Int.reduceNe, Nat.reduceAdd, UInt8.reduceOfNat, UInt16.reduceOfNat, UInt32.reduceOfNat, UInt64.reduceOfNat, UInt64.reduceToNat, UInt32.reduceToNat, UInt16.reduceToNat, UInt8.reduceToNat, Int.reduceAdd, Int.reduceSub, Int.reduceMul, Nat.reduceMul, Qp0, Qp1, Ql0, Qe0, f1, f3, f4, e2, rd_M, rdM_some, hmq, hrd]
    refine hE.mono ?_
    rintro r qa ⟨rfl, hla⟩
    simp -dsimp -implicitDefEqProofs (disch := first | omega | assumption | (simp only [Option.isSome_some, Qt0]; done) | (simp only [UInt64.reduceToNat, UInt32.reduceToNat, UInt8.reduceToNat, List.length_cons, List.length_nil, List.length_append, Int.toNat_natCast] <;> omega) | fail) only [Nat.reduceLT, Nat.reduceLeDiff, Nat.reduceEqDiff, ↓reduceIte, Int.reduceLT, Int.reduceLE, Int.reduceToNat, Int.reduceEq, Int.reduceNe, Nat.reduceAdd, UInt8.reduceOfNat, UInt16.reduceOfNat, UInt32.reduceOfNat, UInt64.reduceOfNat, UInt64.reduceToNat, UInt32.reduceToNat, UInt16.reduceToNat, UInt8.reduceToNat, Int.reduceAdd, Int.reduceSub, Int.reduceMul, Nat.reduceMul, Qp0, Qp1, Ql0, Qe0, f1, f3, f4]
    refine (text23_any _ w0 _).mono ?_
    rintro r qc ⟨rfl, hlc⟩
    simp -dsimp -implicitDefEqProofs (disch := first | omega | assumption | (simp only [Option.isSome_some, Qt0]; done) | (simp only [UInt64.reduceToNat, UInt32.reduceToNat, UInt8.reduceToNat, List.length_cons, List.length_nil, List.length_append, Int.toNat_natCast] <;> omega) | fail) only [Nat.reduceLT, Nat.reduceLeDiff, Nat.reduceEqDiff, ↓reduceIte, Int.reduceLT, Int.reduceLE, Int.reduceToNat, Int.reduceEq, Int.reduceNe, Nat.reduceAdd, UInt8.reduceOfNat, UInt16.reduceOfNat, UInt32.reduceOfNat, UInt64.reduceOfNat, UInt64.reduceToNat, UInt32.reduceToNat, UInt16.reduceToNat, UInt8.reduceToNat, Int.reduceAdd, Int.reduceSub, Int.reduceMul, Nat.reduceMul, Qp0, Qp1, Ql0, Qe0, f1, f3, f4]
    refine Does_one (v := .agg (itL (tI (bytesW y)) none 0).toArray) el_it rfl (by omega) fun gc hgc => ?_
    have hlb := (hla.trans hlc).trans ((PH.Le.refl qc).new gc ⟨(Value.agg (itL (tI (bytesW y)) none 0).toArray).cells.toList, 5⟩ hgc)
    have hgm : (qc.new gc ⟨(Value.agg (itL (tI (bytesW y)) none 0).toArray).cells.toList, 5⟩).m gc = some ⟨[((tI (bytesW y), none, 0) : Ip)].flatMap ipL, 1 * 5⟩ := by rw [PH.new_m, if_pos rfl]; rfl
    generalize qc.new gc ⟨(Value.agg (itL (tI (bytesW y)) none 0).toArray).cells.toList, 5⟩ = qb at *
    have howb := how1.more hlb
    simp -dsimp -implicitDefEqProofs (disch := first | omega | assumption | (simp only [Option.isSome_some, Qt0]; done) | (simp only [UInt64.reduceToNat, UInt32.reduceToNat, UInt8.reduceToNat, List.length_cons, List.length_nil, List.length_append, Int.toNat_natCast] <;> omega) | fail) only [Nat.reduceLT, Nat.reduceLeDiff, Nat.reduceEqDiff, ↓reduceIte, Int.reduceLT, Int.reduceLE, Int.reduceToNat, Int.reduceEq, Int.reduceNe, Nat.reduceAdd, UInt8.reduceOfNat, UInt16.reduceOfNat, UInt32.reduceOfNat, UInt64.reduceOfNat, UInt64.reduceToNat, UInt32.reduceToNat, UInt16.reduceToNat, UInt8.reduceToNat, Int.reduceAdd, Int.reduceSub, Int.reduceMul, Nat.reduceMul, Qp0, Qp1, Ql0, Qe0, f1, f3, f4]
    refine app_items el_it (xs := [(tI (bytesW y), none, 0)]) howb rfl hgm (by simp; omega) (fun v1 h1 how2 hsub1 => ?_)
    have hcat : [((nI 1, none, 0) : Ip)] ++ [(nI w.length, none, 0)] ++ ((w.take i).map fun y => (tI (bytesW y), none, 0)) ++ [(tI (bytesW y), none, 0)] = [((nI 1, none, 0) : Ip)] ++ [(nI w.length, none, 0)] ++ (w.take (i + 1)).map fun y => (tI (bytesW y), none, 0) := by
      rw [List.take_add_one, hwx]; simp
    rw [hcat] at how2
    simp -dsimp -implicitDefEqProofs (disch := first | omega | assumption | (simp only [Option.isSome_some, Qt0]; done) | (simp only [UInt64.reduceToNat, UInt32.reduceToNat, UInt8.reduceToNat, List.length_cons, List.length_nil, List.length_append, Int.toNat_natCast] <;> omega) | fail) only [Nat.reduceLT, Nat.reduceLeDiff, Nat.reduceEqDiff, ↓reduceIte, Int.reduceLT, Int.reduceLE, Int.reduceToNat, Int.reduceEq, Int.reduceNe, Nat.reduceAdd, UInt8.reduceOfNat, UInt16.reduceOfNat, UInt32.reduceOfNat, UInt64.reduceOfNat, UInt64.reduceToNat, UInt32.reduceToNat, UInt16.reduceToNat, UInt8.reduceToNat, Int.reduceAdd, Int.reduceSub, Int.reduceMul, Nat.reduceMul, Qp0, Qp1, Ql0, Qe0, f1, f3, f4]
    exact ⟨n - 1, _, by omega, PH.Le.refl _, i + 1, _, by omega, by trivial, by trivial, by simp, how2⟩
  · have hN := isN_iff.1 h2
    have hvl := vecB_len h1
    have hv16 := trim_len h1
    have hbm : bytesM ⟨2, [], v, c, 0, [], 0⟩ = numB (2 : Int).toNat ++ vecB v ++ numB c.toNat := by unfold bytesM; simp
    have hmq := how1.le.m _ _ hm2
    simp -dsimp -implicitDefEqProofs (disch := first | omega | assumption | (simp only [Option.isSome_some, Qt0]; done) | (simp only [UInt64.reduceToNat, UInt32.reduceToNat, UInt8.reduceToNat, List.length_cons, List.length_nil, List.length_append, Int.toNat_natCast] <;> omega) | fail) only [Nat.reduceLT, Nat.reduceLeDiff, Nat.reduceEqDiff, ↓reduceIte, Int.reduceLT, Int.reduceLE, Int.reduceToNat, Int.reduceEq, Int.reduceNe, Nat.reduceAdd, UInt8.reduceOfNat, UInt16.reduceOfNat, UInt32.reduceOfNat, UInt64.reduceOfNat, UInt64.reduceToNat, UInt32.reduceToNat, UInt16.reduceToNat, UInt8.reduceToNat, Int.reduceAdd, Int.reduceSub, Int.reduceMul, Nat.reduceMul, Qp0, Qp1, Ql0, Qe0, rd_M, rdM_some, hmq]
    refine PW_plan [0, 1, 2, 3, 4, 5, 6, 7, 8, 9] q3 (by kernel_rfl) (by decide +kernel) (by kernel_rfl) (by kernel_rfl) (by kernel_rfl) (fun c f h hq => by simp only [thenC_panic, thenK_panic, inBlk_panic, thenN_panic, vcRet_panic] at hq) (PH.Le.refl _).sub ?_
    simp -dsimp -implicitDefEqProofs (disch := first | omega | assumption | (simp only [Option.isSome_some, Qt0]; done) | (simp only [UInt64.reduceToNat, UInt32.reduceToNat, UInt8.reduceToNat, List.length_cons, List.length_nil, List.length_append, Int.toNat_natCast] <;> omega) | fail) only [Nat.reduceLT, Nat.reduceLeDiff, Nat.reduceEqDiff, ↓reduceIte, Int.reduceLT, Int.reduceLE, Int.reduceToNat, Int.reduceEq, Int.reduceNe, Nat.reduceAdd, UInt8.reduceOfNat, UInt16.reduceOfNat, UInt32.reduceOfNat, UInt64.reduceOfNat, UInt64.reduceToNat, UInt32.reduceToNat, UInt16.reduceToNat, UInt8.reduceToNat, Int.reduceAdd, Int.reduceSub, Int.reduceMul, Nat.reduceMul, Qp0, Qp1, Ql0, Qe0, rd_M, rdM_some, hmq]
    refine (number23_any c w0 _).mono ?_
    rintro r qa ⟨rfl, hla⟩
    refine ⟨hla.sub, ?_⟩
    simp -dsimp -implicitDefEqProofs (disch := first | omega | assumption | (simp only [Option.isSome_some, Qt0]; done) | (simp only [UInt64.reduceToNat, UInt32.reduceToNat, UInt8.reduceToNat, List.length_cons, List.length_nil, List.length_append, Int.toNat_natCast] <;> omega) | fail) only [Nat.reduceLT, Nat.reduceLeDiff, Nat.reduceEqDiff, ↓reduceIte, Int.reduceLT, Int.reduceLE, Int.reduceToNat, Int.reduceEq, Int.reduceNe, Nat.reduceAdd, UInt8.reduceOfNat, UInt16.reduceOfNat, UInt32.reduceOfNat, UInt64.reduceOfNat, UInt64.reduceToNat, UInt32.reduceToNat, UInt16.reduceToNat, UInt8.reduceToNat, Int.reduceAdd, Int.reduceSub, Int.reduceMul, Nat.reduceMul, Qp0, Qp1, Ql0, Qe0, rd_M, rdM_some, hmq]
    refine Does_lit (vs := [.agg (itL (vI v) B cb).toArray, .agg (itL (nI c) none 0).toArray]) (sz := 5) (n := 2) el_it rfl rfl (by simp [cellsL, Value.cells, itL]) (by omega) (by omega) (fun gc hgc => ?_)
    have hlb := hla.trans ((PH.Le.refl qa).new gc ⟨[.agg (itL (vI v) B cb).toArray, .agg (itL (nI c) none 0).toArray].flatMap cellsL, 2 * 5⟩ hgc)
    have hgm : (qa.new gc ⟨[.agg (itL (vI v) B cb).toArray, .agg (itL (nI c) none 0).toArray].flatMap cellsL, 2 * 5⟩).m gc = some ⟨[((vI v, B, cb) : Ip), (nI c, none, 0)].flatMap ipL, 2 * 5⟩ := by rw [PH.new_m, if_pos rfl]; rfl
    generalize qa.new gc ⟨[.agg (itL (vI v) B cb).toArray, .agg (itL (nI c) none 0).toArray].flatMap cellsL, 2 * 5⟩ = qb at *
    have howb := how1.more hlb
    refine ⟨hlb.sub, ?_⟩
    simp -dsimp -implicitDefEqProofs (disch := first | omega | assumption | (simp only [Option.isSome_some, Qt0]; done) | (simp only [UInt64.reduceToNat, UInt32.reduceToNat, UInt8.reduceToNat, List.length_cons, List.length_nil, List.length_append, Int.toNat_natCast] <;> omega) | fail) only [Nat.reduceLT, Nat.reduceLeDiff, Nat.reduceEqDiff, ↓reduceIte, Int.reduceLT, Int.reduceLE, Int.reduceToNat, Int.reduceEq, Int.reduceNe, Nat.reduceAdd, UInt8.reduceOfNat, UInt16.reduceOfNat, UInt32.reduceOfNat, UInt64.reduceOfNat, UInt64.reduceToNat, UInt32.reduceToNat, UInt16.reduceToNat, UInt8.reduceToNat, Int.reduceAdd, Int.reduceSub, Int.reduceMul, Nat.reduceMul, Qp0, Qp1, Ql0, Qe0, rd_M, rdM_some, hmq]
    refine app_items el_it (Ls := [(nI 2, none, 0)]) (xs := [(vI v, B, cb), (nI c, none, 0)]) howb rfl hgm (by simp) (fun v1 h4 how2 hsub1 => ?_)
    refine ⟨fun w sw => hlb.sub w (hsub1 w sw), ?_⟩
    clear how1 howb
    have how1 := how2
    have hmq := how1.le.m _ _ hm2
    have hch : writtenM (List.map (fun q : Ip => q.1) ([((nI 2, none, 0) : Ip)] ++ [(vI v, B, cb), (nI c, none, 0)])) = (numB (2 : Int).toNat ++ vecB v ++ numB c.toNat, none) := by
      have h1' := h1
      unfold writtenM
      simp only [List.map_append, List.map_cons, List.map_nil, List.cons_append, List.nil_append, List.foldl_cons, List.foldl_nil, step_n, step_v]
      rw [numM_ok [] 2 (by omega) (by omega) (by simp), vecM_ok _ v h1' (by simp only [List.nil_append]; omega), numM_ok _ c (by omega) (by omega) (by simp only [List.nil_append, List.length_append]; omega)]
      simp
    simp -dsimp -implicitDefEqProofs (disch := first | omega | assumption | (simp only [Option.isSome_some, Qt0]; done) | (simp only [UInt64.reduceToNat, UInt32.reduceToNat, UInt8.reduceToNat, List.length_cons, List.length_nil, List.length_append, Int.toNat_natCast] <;> omega) | fail) only [Nat.reduceLT, Nat.reduceLeDiff, Nat.reduceEqDiff, ↓reduceIte, Int.reduceLT, Int.reduceLE, Int.reduceToNat, Int.reduceEq, Int.reduceNe, Nat.reduceAdd, UInt8.reduceOfNat, UInt16.reduceOfNat, UInt32.reduceOfNat, UInt64.reduceOfNat, UInt64.reduceToNat, UInt32.reduceToNat, UInt16.reduceToNat, UInt8.reduceToNat, Int.reduceAdd, Int.reduceSub, Int.reduceMul, Nat.reduceMul, Qp0, Qp1, Ql0, Qe0, rd_M, rdM_some, hmq]
    obtain ⟨A9, c9, rfl, _⟩ := how1.own.len
    have hIt := Items_own (w0 := w0) (L := [((nI 2, none, 0) : Ip)] ++ [(vI v, B, cb), (nI c, none, 0)]) how1.own (fun p hp => by
        rcases List.mem_append.1 hp with hp | hp
        · obtain rfl := List.mem_singleton.1 hp; exact hgN _ _ (by omega)
        · rcases List.mem_cons.1 hp with rfl | hp
          · exact ⟨⟨by show (0 : Int) ≤ _; omega, g7, g4.more (hl2.trans how1.le)⟩, by show (0 : Int) ≤ 3; omega, by show (3 : Int) ≤ 3; omega, by show 0 ≤ 70000; omega, by show v.length ≤ 100; omega⟩
          · obtain rfl := List.mem_singleton.1 hp; exact hgN _ _ (by omega))
    have hW := written_any w0 _ A9 c9 _ (by simp) hIt
    rw [List.length_map] at hW
    refine hW.mono ?_
    rintro z9 q9 ⟨hv, hl9⟩
    rw [hch] at hv
    obtain rfl : z9 = .tuple #[str (numB (2 : Int).toNat ++ vecB v ++ numB c.toNat), .int .i64 0, .int .i64 0] := hv
    simp -dsimp -implicitDefEqProofs (disch := first | omega | assumption | (simp only [Option.isSome_some, Qt0]; done) | (simp only [UInt64.reduceToNat, UInt32.reduceToNat, UInt8.reduceToNat, List.length_cons, List.length_nil, List.length_append, Int.toNat_natCast] <;> omega) | fail) only [Nat.reduceLT, Nat.reduceLeDiff, Nat.reduceEqDiff, ↓reduceIte, Int.reduceLT, Int.reduceLE, Int.reduceToNat, Int.reduceEq, Int.reduceNe, Nat.reduceAdd, UInt8.reduceOfNat, UInt16.reduceOfNat, UInt32.reduceOfNat, UInt64.reduceOfNat, UInt64.reduceToNat, UInt32.reduceToNat, UInt16.reduceToNat, UInt8.reduceToNat, Int.reduceAdd, Int.reduceSub, Int.reduceMul, Nat.reduceMul, Qp0, Qp1, Ql0, Qe0]
    exact ⟨_, PH.Le.refl _, by rw [hbm]; first | rfl | trivial, hle2.trans (how1.le.trans hl9)⟩
  · have hN := isN_iff.1 h1
    have hbm : bytesM ⟨3, [], [], 0, t, [], 0⟩ = numB (3 : Int).toNat ++ numB t.toNat := by unfold bytesM; simp
    have hmq := how1.le.m _ _ hm2
    simp -dsimp -implicitDefEqProofs (disch := first | omega | assumption | (simp only [Option.isSome_some, Qt0]; done) | (simp only [UInt64.reduceToNat, UInt32.reduceToNat, UInt8.reduceToNat, List.length_cons, List.length_nil, List.length_append, Int.toNat_natCast] <;> omega) | fail) only [Nat.reduceLT, Nat.reduceLeDiff, Nat.reduceEqDiff, ↓reduceIte, Int.reduceLT, Int.reduceLE, Int.reduceToNat, Int.reduceEq, Int.reduceNe, Nat.reduceAdd, UInt8.reduceOfNat, UInt16.reduceOfNat, UInt32.reduceOfNat, UInt64.reduceOfNat, UInt64.reduceToNat, UInt32.reduceToNat, UInt16.reduceToNat, UInt8.reduceToNat, Int.reduceAdd, Int.reduceSub, Int.reduceMul, Nat.reduceMul, Qp0, Qp1, Ql0, Qe0, rd_M, rdM_some, hmq]
    refine (number23_any t w0 _).mono ?_
    rintro r qa ⟨rfl, hla⟩
    simp -dsimp -implicitDefEqProofs (disch := first | omega | assumption | (simp only [Option.isSome_some, Qt0]; done) | (simp only [UInt64.reduceToNat, UInt32.reduceToNat, UInt8.reduceToNat, List.length_cons, List.length_nil, List.length_append, Int.toNat_natCast] <;> omega) | fail) only [Nat.reduceLT, Nat.reduceLeDiff, Nat.reduceEqDiff, ↓reduceIte, Int.reduceLT, Int.reduceLE, Int.reduceToNat, Int.reduceEq, Int.reduceNe, Nat.reduceAdd, UInt8.reduceOfNat, UInt16.reduceOfNat, UInt32.reduceOfNat, UInt64.reduceOfNat, UInt64.reduceToNat, UInt32.reduceToNat, UInt16.reduceToNat, UInt8.reduceToNat, Int.reduceAdd, Int.reduceSub, Int.reduceMul, Nat.reduceMul, Qp0, Qp1, Ql0, Qe0]
    refine Does_one (v := .agg (itL (nI t) none 0).toArray) el_it rfl (by omega) fun gc hgc => ?_
    have hlb := hla.trans ((PH.Le.refl qa).new gc ⟨(Value.agg (itL (nI t) none 0).toArray).cells.toList, 5⟩ hgc)
    have hgm : (qa.new gc ⟨(Value.agg (itL (nI t) none 0).toArray).cells.toList, 5⟩).m gc = some ⟨[((nI t, none, 0) : Ip)].flatMap ipL, 1 * 5⟩ := by rw [PH.new_m, if_pos rfl]; rfl
    generalize qa.new gc ⟨(Value.agg (itL (nI t) none 0).toArray).cells.toList, 5⟩ = qb at *
    have howb := how1.more hlb
    simp -dsimp -implicitDefEqProofs (disch := first | omega | assumption | (simp only [Option.isSome_some, Qt0]; done) | (simp only [UInt64.reduceToNat, UInt32.reduceToNat, UInt8.reduceToNat, List.length_cons, List.length_nil, List.length_append, Int.toNat_natCast] <;> omega) | fail) only [Nat.reduceLT, Nat.reduceLeDiff, Nat.reduceEqDiff, ↓reduceIte, Int.reduceLT, Int.reduceLE, Int.reduceToNat, Int.reduceEq, Int.reduceNe, Nat.reduceAdd, UInt8.reduceOfNat, UInt16.reduceOfNat, UInt32.reduceOfNat, UInt64.reduceOfNat, UInt64.reduceToNat, UInt32.reduceToNat, UInt16.reduceToNat, UInt8.reduceToNat, Int.reduceAdd, Int.reduceSub, Int.reduceMul, Nat.reduceMul, Qp0, Qp1, Ql0, Qe0]
    refine app_items el_it (Ls := [(nI 3, none, 0)]) (xs := [(nI t, none, 0)]) howb rfl hgm (by simp) (fun v1 hx1 how1 hsub1 => ?_)
    clear howb hgm hlb hgc hla
    have hch : writtenM (List.map (fun q : Ip => q.1) ([((nI 3, none, 0) : Ip)] ++ [(nI t, none, 0)])) = (numB (3 : Int).toNat ++ numB t.toNat, none) := by
      unfold writtenM
      simp only [List.map_append, List.map_cons, List.map_nil, List.cons_append, List.nil_append, List.foldl_cons, List.foldl_nil, step_n]
      rw [numM_ok [] 3 (by omega) (by omega) (by simp), numM_ok _ t (by omega) (by omega) (by simp only [List.nil_append]; omega)]
      simp
    simp -dsimp -implicitDefEqProofs (disch := first | omega | assumption | (simp only [Option.isSome_some, Qt0]; done) | (simp only [UInt64.reduceToNat, UInt32.reduceToNat, UInt8.reduceToNat, List.length_cons, List.length_nil, List.length_append, Int.toNat_natCast] <;> omega) | fail) only [Nat.reduceLT, Nat.reduceLeDiff, Nat.reduceEqDiff, ↓reduceIte, Int.reduceLT, Int.reduceLE, Int.reduceToNat, Int.reduceEq, Int.reduceNe, Nat.reduceAdd, UInt8.reduceOfNat, UInt16.reduceOfNat, UInt32.reduceOfNat, UInt64.reduceOfNat, UInt64.reduceToNat, UInt32.reduceToNat, UInt16.reduceToNat, UInt8.reduceToNat, Int.reduceAdd, Int.reduceSub, Int.reduceMul, Nat.reduceMul, Qp0, Qp1, Ql0, Qe0]
    obtain ⟨A9, c9, rfl, _⟩ := how1.own.len
    have hIt := Items_own (w0 := w0) (L := [((nI 3, none, 0) : Ip)] ++ [(nI t, none, 0)]) how1.own (fun p hp => by
        rcases List.mem_append.1 hp with hp | hp
        · obtain rfl := List.mem_singleton.1 hp; exact hgN _ _ (by omega)
        · obtain rfl := List.mem_singleton.1 hp; exact hgN _ _ (by omega))
    have hW := written_any w0 _ A9 c9 _ (by simp) hIt
    rw [List.length_map] at hW
    refine hW.mono ?_
    rintro z9 q9 ⟨hv, hl9⟩
    rw [hch] at hv
    obtain rfl : z9 = .tuple #[str (numB (3 : Int).toNat ++ numB t.toNat), .int .i64 0, .int .i64 0] := hv
    simp -dsimp -implicitDefEqProofs (disch := first | omega | assumption | (simp only [Option.isSome_some, Qt0]; done) | (simp only [UInt64.reduceToNat, UInt32.reduceToNat, UInt8.reduceToNat, List.length_cons, List.length_nil, List.length_append, Int.toNat_natCast] <;> omega) | fail) only [Nat.reduceLT, Nat.reduceLeDiff, Nat.reduceEqDiff, ↓reduceIte, Int.reduceLT, Int.reduceLE, Int.reduceToNat, Int.reduceEq, Int.reduceNe, Nat.reduceAdd, UInt8.reduceOfNat, UInt16.reduceOfNat, UInt32.reduceOfNat, UInt64.reduceOfNat, UInt64.reduceToNat, UInt32.reduceToNat, UInt16.reduceToNat, UInt8.reduceToNat, Int.reduceAdd, Int.reduceSub, Int.reduceMul, Nat.reduceMul, Qp0, Qp1, Ql0, Qe0]
    exact ⟨_, PH.Le.refl _, by rw [hbm]; first | rfl | trivial, hle2.trans (how1.le.trans hl9)⟩
  · have hN := isN_iff.1 h1
    have hX := isN_iff.1 h3
    obtain ⟨p1, p2, p3⟩ := rightE_parts h2
    have hl9 := numB_len9 (n := e.length) (by omega)
    have hbm : bytesM ⟨4, [], [], 0, t, e, x⟩ = numB (4 : Int).toNat ++ numB e.length ++ e.flatMap epB ++ numB x.toNat ++ numB t.toNat := by unfold bytesM epsB; simp
    have hmq := how1.le.m _ _ hm2
    simp -dsimp -implicitDefEqProofs (disch := first | omega | assumption | (simp only [Option.isSome_some, Qt0]; done) | (simp only [UInt64.reduceToNat, UInt32.reduceToNat, UInt8.reduceToNat, List.length_cons, List.length_nil, List.length_append, Int.toNat_natCast] <;> omega) | fail) only [Nat.reduceLT, Nat.reduceLeDiff, Nat.reduceEqDiff, ↓reduceIte, Int.reduceLT, Int.reduceLE, Int.reduceToNat, Int.reduceEq, Int.reduceNe, Nat.reduceAdd, UInt8.reduceOfNat, UInt16.reduceOfNat, UInt32.reduceOfNat, UInt64.reduceOfNat, UInt64.reduceToNat, UInt32.reduceToNat, UInt16.reduceToNat, UInt8.reduceToNat, Int.reduceAdd, Int.reduceSub, Int.reduceMul, Nat.reduceMul, Qp0, Qp1, Ql0, Qe0, rd_M, rdM_some, hmq]
    refine (number23_any e.length w0 _).mono ?_
    rintro r qa ⟨rfl, hla⟩
    simp -dsimp -implicitDefEqProofs (disch := first | omega | assumption | (simp only [Option.isSome_some, Qt0]; done) | (simp only [UInt64.reduceToNat, UInt32.reduceToNat, UInt8.reduceToNat, List.length_cons, List.length_nil, List.length_append, Int.toNat_natCast] <;> omega) | fail) only [Nat.reduceLT, Nat.reduceLeDiff, Nat.reduceEqDiff, ↓reduceIte, Int.reduceLT, Int.reduceLE, Int.reduceToNat, Int.reduceEq, Int.reduceNe, Nat.reduceAdd, UInt8.reduceOfNat, UInt16.reduceOfNat, UInt32.reduceOfNat, UInt64.reduceOfNat, UInt64.reduceToNat, UInt32.reduceToNat, UInt16.reduceToNat, UInt8.reduceToNat, Int.reduceAdd, Int.reduceSub, Int.reduceMul, Nat.reduceMul, Qp0, Qp1, Ql0, Qe0]
    refine Does_one (v := .agg (itL (nI e.length) none 0).toArray) el_it rfl (by omega) fun gc hgc => ?_
    have hlb := hla.trans ((PH.Le.refl qa).new gc ⟨(Value.agg (itL (nI e.length) none 0).toArray).cells.toList, 5⟩ hgc)
    have hgm : (qa.new gc ⟨(Value.agg (itL (nI e.length) none 0).toArray).cells.toList, 5⟩).m gc = some ⟨[((nI e.length, none, 0) : Ip)].flatMap ipL, 1 * 5⟩ := by rw [PH.new_m, if_pos rfl]; rfl
    generalize qa.new gc ⟨(Value.agg (itL (nI e.length) none 0).toArray).cells.toList, 5⟩ = qb at *
    have howb := how1.more hlb
    simp -dsimp -implicitDefEqProofs (disch := first | omega | assumption | (simp only [Option.isSome_some, Qt0]; done) | (simp only [UInt64.reduceToNat, UInt32.reduceToNat, UInt8.reduceToNat, List.length_cons, List.length_nil, List.length_append, Int.toNat_natCast] <;> omega) | fail) only [Nat.reduceLT, Nat.reduceLeDiff, Nat.reduceEqDiff, ↓reduceIte, Int.reduceLT, Int.reduceLE, Int.reduceToNat, Int.reduceEq, Int.reduceNe, Nat.reduceAdd, UInt8.reduceOfNat, UInt16.reduceOfNat, UInt32.reduceOfNat, UInt64.reduceOfNat, UInt64.reduceToNat, UInt32.reduceToNat, UInt16.reduceToNat, UInt8.reduceToNat, Int.reduceAdd, Int.reduceSub, Int.reduceMul, Nat.reduceMul, Qp0, Qp1, Ql0, Qe0]
    refine app_items el_it (Ls := [(nI 4, none, 0)]) (xs := [(nI e.length, none, 0)]) howb rfl hgm (by simp) (fun v1 hx1 how1 hsub1 => ?_)
    clear howb hgm hlb hgc hla
    simp -dsimp -implicitDefEqProofs (disch := first | omega | assumption | (simp only [Option.isSome_some, Qt0]; done) | (simp only [UInt64.reduceToNat, UInt32.reduceToNat, UInt8.reduceToNat, List.length_cons, List.length_nil, List.length_append, Int.toNat_natCast] <;> omega) | fail) only [Nat.reduceLT, Nat.reduceLeDiff, Nat.reduceEqDiff, ↓reduceIte, Int.reduceLT, Int.reduceLE, Int.reduceToNat, Int.reduceEq, Int.reduceNe, Nat.reduceAdd, UInt8.reduceOfNat, UInt16.reduceOfNat, UInt32.reduceOfNat, UInt64.reduceOfNat, UInt64.reduceToNat, UInt32.reduceToNat, UInt16.reduceToNat, UInt8.reduceToNat, Int.reduceAdd, Int.reduceSub, Int.reduceMul, Nat.reduceMul, Qp0, Qp1, Ql0, Qe0]
    refine PW_loopL (fun n f h' => ∃ (i : Nat) (v : Value), n + i = e.length ∧ f 1 = some (.pointer (some ⟨mb, 0, none⟩)) ∧ f 3 = some v ∧ f 5 = some (.int .i64 i) ∧ OwnS q2 h' 5 v ([((nI 4, none, 0) : Ip)] ++ [(nI e.length, none, 0)] ++ eIp (e.take i)).length (([((nI 4, none, 0) : Ip)] ++ [(nI e.length, none, 0)] ++ eIp (e.take i)).flatMap ipL)) (by kernel_rfl) e.length ⟨0, _, by omega, ?_, ?_, ?_, by simpa [eIp] using how1⟩ ?_
    · simp -dsimp -implicitDefEqProofs (disch := first | omega | assumption | (simp only [Option.isSome_some, Qt0]; done) | (simp only [UInt64.reduceToNat, UInt32.reduceToNat, UInt8.reduceToNat, List.length_cons, List.length_nil, List.length_append, Int.toNat_natCast] <;> omega) | fail) only [Nat.reduceLT, Nat.reduceLeDiff, Nat.reduceEqDiff, ↓reduceIte, Int.reduceLT, Int.reduceLE, Int.reduceToNat, Int.reduceEq, Int.reduceNe, Nat.reduceAdd, UInt8.reduceOfNat, UInt16.reduceOfNat, UInt32.reduceOfNat, UInt64.reduceOfNat, UInt64.reduceToNat, UInt32.reduceToNat, UInt16.reduceToNat, UInt8.reduceToNat, Int.reduceAdd, Int.reduceSub, Int.reduceMul, Nat.reduceMul, Qp0, Qp1, Ql0, Qe0]
    · simp -dsimp -implicitDefEqProofs (disch := first | omega | assumption | (simp only [Option.isSome_some, Qt0]; done) | (simp only [UInt64.reduceToNat, UInt32.reduceToNat, UInt8.reduceToNat, List.length_cons, List.length_nil, List.length_append, Int.toNat_natCast] <;> omega) | fail) only [Nat.reduceLT, Nat.reduceLeDiff, Nat.reduceEqDiff, ↓reduceIte, Int.reduceLT, Int.reduceLE, Int.reduceToNat, Int.reduceEq, Int.reduceNe, Nat.reduceAdd, UInt8.reduceOfNat, UInt16.reduceOfNat, UInt32.reduceOfNat, UInt64.reduceOfNat, UInt64.reduceToNat, UInt32.reduceToNat, UInt16.reduceToNat, UInt8.reduceToNat, Int.reduceAdd, Int.reduceSub, Int.reduceMul, Nat.reduceMul, Qp0, Qp1, Ql0, Qe0]
    · simp -dsimp -implicitDefEqProofs (disch := first | omega | assumption | (simp only [Option.isSome_some, Qt0]; done) | (simp only [UInt64.reduceToNat, UInt32.reduceToNat, UInt8.reduceToNat, List.length_cons, List.length_nil, List.length_append, Int.toNat_natCast] <;> omega) | fail) only [Nat.reduceLT, Nat.reduceLeDiff, Nat.reduceEqDiff, ↓reduceIte, Int.reduceLT, Int.reduceLE, Int.reduceToNat, Int.reduceEq, Int.reduceNe, Nat.reduceAdd, UInt8.reduceOfNat, UInt16.reduceOfNat, UInt32.reduceOfNat, UInt64.reduceOfNat, UInt64.reduceToNat, UInt32.reduceToNat, UInt16.reduceToNat, UInt8.reduceToNat, Int.reduceAdd, Int.reduceSub, Int.reduceMul, Nat.reduceMul, Qp0, Qp1, Ql0, Qe0]
      try rfl
    rintro n f h' ⟨i, v, hni, f1, f3, f5, how1⟩ hlow'
    have hmq := how1.le.m _ _ hm2
    by_cases hi : i < e.length
    rotate_left
    · have e2 : decide ((i : Int) < (e.length : Int)) = false := decide_eq_false (by omega)
      rw [List.take_of_length_le (by omega)] at how1
      simp -dsimp -implicitDefEqProofs (disch := first | omega | assumption | (simp only [Option.isSome_some, Qt0]; done) | (simp only [UInt64.reduceToNat, UInt32.reduceToNat, UInt8.reduceToNat, List.length_cons, List.length_nil, List.length_append, Int.toNat_natCast] <;> omega) | fail) only [Nat.reduceLT, Nat.reduceLeDiff, Nat.reduceEqDiff, ↓reduceIte, Int.reduceLT, Int.reduceLE, Int.reduceToNat, Int.reduceEq, Int.reduceNe, Nat.reduceAdd, UInt8.reduceOfNat, UInt16.reduceOfNat, UInt32.reduceOfNat, UInt64.reduceOfNat, UInt64.reduceToNat, UInt32.reduceToNat, UInt16.reduceToNat, UInt8.reduceToNat, Int.reduceAdd, Int.reduceSub, Int.reduceMul, Nat.reduceMul, Qp0, Qp1, Ql0, Qe0, f1, f3, f5, e2, rd_M, rdM_some, hmq]
      refine (number23_any x w0 _).mono ?_
      rintro r qa ⟨rfl, hla⟩
      simp -dsimp -implicitDefEqProofs (disch := first | omega | assumption | (simp only [Option.isSome_some, Qt0]; done) | (simp only [UInt64.reduceToNat, UInt32.reduceToNat, UInt8.reduceToNat, List.length_cons, List.length_nil, List.length_append, Int.toNat_natCast] <;> omega) | fail) only [Nat.reduceLT, Nat.reduceLeDiff, Nat.reduceEqDiff, ↓reduceIte, Int.reduceLT, Int.reduceLE, Int.reduceToNat, Int.reduceEq, Int.reduceNe, Nat.reduceAdd, UInt8.reduceOfNat, UInt16.reduceOfNat, UInt32.reduceOfNat, UInt64.reduceOfNat, UInt64.reduceToNat, UInt32.reduceToNat, UInt16.reduceToNat, UInt8.reduceToNat, Int.reduceAdd, Int.reduceSub, Int.reduceMul, Nat.reduceMul, Qp0, Qp1, Ql0, Qe0, f1, f3, f5]
      refine Does_one (v := .agg (itL (nI x) none 0).toArray) el_it rfl (by omega) fun gc hgc => ?_
      have hlb := hla.trans ((PH.Le.refl qa).new gc ⟨(Value.agg (itL (nI x) none 0).toArray).cells.toList, 5⟩ hgc)
      have hgm : (qa.new gc ⟨(Value.agg (itL (nI x) none 0).toArray).cells.toList, 5⟩).m gc = some ⟨[((nI x, none, 0) : Ip)].flatMap ipL, 1 * 5⟩ := by rw [PH.new_m, if_pos rfl]; rfl
      generalize qa.new gc ⟨(Value.agg (itL (nI x) none 0).toArray).cells.toList, 5⟩ = qb at *
      have howb := how1.more hlb
      simp -dsimp -implicitDefEqProofs (disch := first | omega | assumption | (simp only [Option.isSome_some, Qt0]; done) | (simp only [UInt64.reduceToNat, UInt32.reduceToNat, UInt8.reduceToNat, List.length_cons, List.length_nil, List.length_append, Int.toNat_natCast] <;> omega) | fail) only [Nat.reduceLT, Nat.reduceLeDiff, Nat.reduceEqDiff, ↓reduceIte, Int.reduceLT, Int.reduceLE, Int.reduceToNat, Int.reduceEq, Int.reduceNe, Nat.reduceAdd, UInt8.reduceOfNat, UInt16.reduceOfNat, UInt32.reduceOfNat, UInt64.reduceOfNat, UInt64.reduceToNat, UInt32.reduceToNat, UInt16.reduceToNat, UInt8.reduceToNat, Int.reduceAdd, Int.reduceSub, Int.reduceMul, Nat.reduceMul, Qp0, Qp1, Ql0, Qe0, f1, f3, f5]
      refine app_items el_it (Ls := [((nI 4, none, 0) : Ip)] ++ [(nI e.length, none, 0)] ++ eIp e) (xs := [(nI x, none, 0)]) howb rfl hgm (by simp [eIp_len]; omega) (fun v1 hx1 how1 hsub1 => ?_)
      clear howb hgm hlb hgc hla
      have hmq := how1.le.m _ _ hm2
      simp -dsimp -implicitDefEqProofs (disch := first | omega | assumption | (simp only [Option.isSome_some, Qt0]; done) | (simp only [UInt64.reduceToNat, UInt32.reduceToNat, UInt8.reduceToNat, List.length_cons, List.length_nil, List.length_append, Int.toNat_natCast] <;> omega) | fail) only [Nat.reduceLT, Nat.reduceLeDiff, Nat.reduceEqDiff, ↓reduceIte, Int.reduceLT, Int.reduceLE, Int.reduceToNat, Int.reduceEq, Int.reduceNe, Nat.reduceAdd, UInt8.reduceOfNat, UInt16.reduceOfNat, UInt32.reduceOfNat, UInt64.reduceOfNat, UInt64.reduceToNat, UInt32.reduceToNat, UInt16.reduceToNat, UInt8.reduceToNat, Int.reduceAdd, Int.reduceSub, Int.reduceMul, Nat.reduceMul, Qp0, Qp1, Ql0, Qe0, f1, f3, f5, rd_M, rdM_some, hmq]
      refine (number23_any t w0 _).mono ?_
      rintro r qa ⟨rfl, hla⟩
      simp -dsimp -implicitDefEqProofs (disch := first | omega | assumption | (simp only [Option.isSome_some, Qt0]; done) | (simp only [UInt64.reduceToNat, UInt32.reduceToNat, UInt8.reduceToNat, List.length_cons, List.length_nil, List.length_append, Int.toNat_natCast] <;> omega) | fail) only [Nat.reduceLT, Nat.reduceLeDiff, Nat.reduceEqDiff, ↓reduceIte, Int.reduceLT, Int.reduceLE, Int.reduceToNat, Int.reduceEq, Int.reduceNe, Nat.reduceAdd, UInt8.reduceOfNat, UInt16.reduceOfNat, UInt32.reduceOfNat, UInt64.reduceOfNat, UInt64.reduceToNat, UInt32.reduceToNat, UInt16.reduceToNat, UInt8.reduceToNat, Int.reduceAdd, Int.reduceSub, Int.reduceMul, Nat.reduceMul, Qp0, Qp1, Ql0, Qe0, f1, f3, f5]
      refine Does_one (v := .agg (itL (nI t) none 0).toArray) el_it rfl (by omega) fun gc hgc => ?_
      have hlb := hla.trans ((PH.Le.refl qa).new gc ⟨(Value.agg (itL (nI t) none 0).toArray).cells.toList, 5⟩ hgc)
      have hgm : (qa.new gc ⟨(Value.agg (itL (nI t) none 0).toArray).cells.toList, 5⟩).m gc = some ⟨[((nI t, none, 0) : Ip)].flatMap ipL, 1 * 5⟩ := by rw [PH.new_m, if_pos rfl]; rfl
      generalize qa.new gc ⟨(Value.agg (itL (nI t) none 0).toArray).cells.toList, 5⟩ = qb at *
      have howb := how1.more hlb
      simp -dsimp -implicitDefEqProofs (disch := first | omega | assumption | (simp only [Option.isSome_some, Qt0]; done) | (simp only [UInt64.reduceToNat, UInt32.reduceToNat, UInt8.reduceToNat, List.length_cons, List.length_nil, List.length_append, Int.toNat_natCast] <;> omega) | fail) only [Nat.reduceLT, Nat.reduceLeDiff, Nat.reduceEqDiff, ↓reduceIte, Int.reduceLT, Int.reduceLE, Int.reduceToNat, Int.reduceEq, Int.reduceNe, Nat.reduceAdd, UInt8.reduceOfNat, UInt16.reduceOfNat, UInt32.reduceOfNat, UInt64.reduceOfNat, UInt64.reduceToNat, UInt32.reduceToNat, UInt16.reduceToNat, UInt8.reduceToNat, Int.reduceAdd, Int.reduceSub, Int.reduceMul, Nat.reduceMul, Qp0, Qp1, Ql0, Qe0, f1, f3, f5]
      refine app_items el_it (Ls := [((nI 4, none, 0) : Ip)] ++ [(nI e.length, none, 0)] ++ eIp e ++ [(nI x, none, 0)]) (xs := [(nI t, none, 0)]) howb rfl hgm (by simp [eIp_len]; omega) (fun v1 hx1 how1 hsub1 => ?_)
      clear howb hgm hlb hgc hla
      have hch : writtenM (List.map (fun q : Ip => q.1) ([((nI 4, none, 0) : Ip)] ++ [(nI e.length, none, 0)] ++ eIp e ++ [(nI x, none, 0)] ++ [(nI t, none, 0)])) = (numB (4 : Int).toNat ++ numB e.length ++ e.flatMap epB ++ numB x.toNat ++ numB t.toNat, none) := by
        have hmm : (List.map (fun q : Ip => q.1) ([((nI 4, none, 0) : Ip)] ++ [(nI e.length, none, 0)] ++ eIp e ++ [(nI x, none, 0)] ++ [(nI t, none, 0)])) = [nI 4, nI e.length] ++ ((e.flatMap fun p => [tI p.u, nI p.n]) ++ [nI x, nI t]) := by rw [← eIp_map]; simp
        rw [hmm]
        unfold writtenM
        have hfl := flat_len_K (g := epB) (K := 50) e fun y hy => epB_len (p2 y hy)
        have hx9 := numB_len9 (n := x.toNat) (by omega)
        rw [List.foldl_append, List.foldl_cons, List.foldl_cons, List.foldl_nil, step_n, step_n, numM_ok [] 4 (by omega) (by omega) (by simp), numM_ok _ e.length (by omega) (by omega) (by simp only [List.nil_append]; omega)]
        rw [List.foldl_append, fold_eps e _ p2 (by simp only [List.nil_append, List.length_append, Int.toNat_natCast]; omega)]
        rw [List.foldl_cons, List.foldl_cons, List.foldl_nil, step_n, step_n, numM_ok _ x (by omega) (by omega) (by simp only [List.nil_append, List.length_append, Int.toNat_natCast]; omega), numM_ok _ t (by omega) (by omega) (by simp only [List.nil_append, List.length_append, Int.toNat_natCast]; omega)]
        simp
      simp -dsimp -implicitDefEqProofs (disch := first | omega | assumption | (simp only [Option.isSome_some, Qt0]; done) | (simp only [UInt64.reduceToNat, UInt32.reduceToNat, UInt8.reduceToNat, List.length_cons, List.length_nil, List.length_append, Int.toNat_natCast] <;> omega) | fail) only [Nat.reduceLT, Nat.reduceLeDiff, Nat.reduceEqDiff, ↓reduceIte, Int.reduceLT, Int.reduceLE, Int.reduceToNat, Int.reduceEq, Int.reduceNe, Nat.reduceAdd, UInt8.reduceOfNat, UInt16.reduceOfNat, UInt32.reduceOfNat, UInt64.reduceOfNat, UInt64.reduceToNat, UInt32.reduceToNat, UInt16.reduceToNat, UInt8.reduceToNat, Int.reduceAdd, Int.reduceSub, Int.reduceMul, Nat.reduceMul, Qp0, Qp1, Ql0, Qe0, f1, f3, f5]
      obtain ⟨A9, c9, rfl, _⟩ := how1.own.len
      have hIt := Items_own (w0 := w0) (L := [((nI 4, none, 0) : Ip)] ++ [(nI e.length, none, 0)] ++ eIp e ++ [(nI x, none, 0)] ++ [(nI t, none, 0)]) how1.own (fun p hp => by
        rcases List.mem_append.1 hp with hp | hp
        · rcases List.mem_append.1 hp with hp | hp
          · rcases List.mem_append.1 hp with hp | hp
            · rcases List.mem_append.1 hp with hp | hp
              · obtain rfl := List.mem_singleton.1 hp; exact hgN _ _ (by omega)
              · obtain rfl := List.mem_singleton.1 hp; exact hgN _ _ (by omega)
            · obtain ⟨y, hy, hp⟩ := List.mem_flatMap.1 hp
              have hy := rightEp_iff (u := y.u) (n := y.n) |>.1 (p2 y hy)
              rcases List.mem_cons.1 hp with rfl | hp
              · exact hgT _ _ (by omega)
              · obtain rfl := List.mem_singleton.1 hp; exact hgN _ _ (by omega)
          · obtain rfl := List.mem_singleton.1 hp; exact hgN _ _ (by omega)
        · obtain rfl := List.mem_singleton.1 hp; exact hgN _ _ (by omega))
      have hW := written_any w0 _ A9 c9 _ (by simp [eIp_len] <;> omega) hIt
      rw [List.length_map] at hW
      refine hW.mono ?_
      rintro z9 q9 ⟨hv, hl9⟩
      rw [hch] at hv
      obtain rfl : z9 = .tuple #[str (numB (4 : Int).toNat ++ numB e.length ++ e.flatMap epB ++ numB x.toNat ++ numB t.toNat), .int .i64 0, .int .i64 0] := hv
      simp -dsimp -implicitDefEqProofs (disch := first | omega | assumption | (simp only [Option.isSome_some, Qt0]; done) | (simp only [UInt64.reduceToNat, UInt32.reduceToNat, UInt8.reduceToNat, List.length_cons, List.length_nil, List.length_append, Int.toNat_natCast] <;> omega) | fail) only [Nat.reduceLT, Nat.reduceLeDiff, Nat.reduceEqDiff, ↓reduceIte, Int.reduceLT, Int.reduceLE, Int.reduceToNat, Int.reduceEq, Int.reduceNe, Nat.reduceAdd, UInt8.reduceOfNat, UInt16.reduceOfNat, UInt32.reduceOfNat, UInt64.reduceOfNat, UInt64.reduceToNat, UInt32.reduceToNat, UInt16.reduceToNat, UInt8.reduceToNat, Int.reduceAdd, Int.reduceSub, Int.reduceMul, Nat.reduceMul, Qp0, Qp1, Ql0, Qe0]
      exact ⟨_, PH.Le.refl _, by rw [hbm]; first | rfl | trivial, hle2.trans (how1.le.trans hl9)⟩
    have e2 : decide ((i : Int) < (e.length : Int)) = true := decide_eq_true (by omega)
    obtain ⟨⟨u, m⟩, hx⟩ : ∃ x, e[i]? = some x := ⟨_, List.getElem?_eq_getElem hi⟩
    have hxr := rightEp_iff.1 (p2 _ (List.mem_of_getElem? hx))
    obtain ⟨b, o, rfl⟩ := g5.addr_ epL_length (by omega) hx
    have hT : (i : Int).toNat = i := Int.toNat_natCast i
    have hge := g5.more (hl2.trans how1.le)
    have gu : rdM w0 (h'.m b) b (o + i * 2) = some (str u) := hge.chunkM epL_length (by omega) hlow' hx (j := 0) rfl
    have gm : rdM w0 (h'.m b) b (o + i * 2 + 1) = some (.int .i64 m) := hge.chunkM epL_length (by omega) hlow' hx (j := 1) rfl
    simp -dsimp -implicitDefEqProofs (disch := first | omega | assumption | (simp only [Option.isSome_some, Qt0]; done) | (simp only [UInt64.reduceToNat, UInt32.reduceToNat, UInt8.reduceToNat, List.length_cons, List.length_nil, List.length_append, Int.toNat_natCast] <;> omega) | fail) only [Nat.reduceLT, Nat.reduceLeDiff, Nat.reduceEqDiff, ↓reduceIte, Int.reduceLT, Int.reduceLE, Int.reduceToNat, Int.reduceEq, Int.reduceNe, Nat.reduceAdd, UInt8.reduceOfNat, UInt16.reduceOfNat, UInt32.reduceOfNat, UInt64.reduceOfNat, UInt64.reduceToNat, UInt32.reduceToNat, UInt16.reduceToNat, UInt8.reduceToNat, Int.reduceAdd, Int.reduceSub, Int.reduceMul, Nat.reduceMul, Qp0, Qp1, Ql0, Qe0, f1, f3, f5, e2, rd_M, rdM_some, hmq]
    refine PW_plan [0, 1, 2, 3, 4, 5, 6, 8, 9, 10, 11, 12, 13, 7, 14, 15, 16, 17] h' (by kernel_rfl) (by decide +kernel) (by kernel_rfl) (by kernel_rfl) (by kernel_rfl) (fun c f h hq => by simp only [thenC_panic, thenK_panic, inBlk_panic, thenN_panic, vcRet_panic] at hq) (PH.Le.refl _).sub ?_
    simp -dsimp -implicitDefEqProofs (disch := first | omega | assumption | (simp only [Option.isSome_some, Qt0]; done) | (simp only [UInt64.reduceToNat, UInt32.reduceToNat, UInt8.reduceToNat, List.length_cons, List.length_nil, List.length_append, Int.toNat_natCast] <;> omega) | fail) only [Nat.reduceLT, Nat.reduceLeDiff, Nat.reduceEqDiff, ↓reduceIte, Int.reduceLT, Int.reduceLE, Int.reduceToNat, Int.reduceEq, Int.reduceNe, Nat.reduceAdd, UInt8.reduceOfNat, UInt16.reduceOfNat, UInt32.reduceOfNat, UInt64.reduceOfNat, UInt64.reduceToNat, UInt32.reduceToNat, UInt16.reduceToNat, UInt8.reduceToNat, Int.reduceAdd, Int.reduceSub, Int.reduceMul, Nat.reduceMul, Qp0, Qp1, Ql0, Qe0, f1, f3, f5, rd_M, rdM_some, hmq, gu, gm]
    refine (text23_any _ w0 _).mono ?_
    rintro r qa ⟨rfl, hla⟩
    refine ⟨hla.sub, ?_⟩
    simp -dsimp -implicitDefEqProofs (disch := first | omega | assumption | (simp only [Option.isSome_some, Qt0]; done) | (simp only [UInt64.reduceToNat, UInt32.reduceToNat, UInt8.reduceToNat, List.length_cons, List.length_nil, List.length_append, Int.toNat_natCast] <;> omega) | fail) only [Nat.reduceLT, Nat.reduceLeDiff, Nat.reduceEqDiff, ↓reduceIte, Int.reduceLT, Int.reduceLE, Int.reduceToNat, Int.reduceEq, Int.reduceNe, Nat.reduceAdd, UInt8.reduceOfNat, UInt16.reduceOfNat, UInt32.reduceOfNat, UInt64.reduceOfNat, UInt64.reduceToNat, UInt32.reduceToNat, UInt16.reduceToNat, UInt8.reduceToNat, Int.reduceAdd, Int.reduceSub, Int.reduceMul, Nat.reduceMul, Qp0, Qp1, Ql0, Qe0, f1, f3, f5]
    refine (number23_any m w0 _).mono ?_
    rintro r qc ⟨rfl, hlc⟩
    refine ⟨(hla.trans hlc).sub, ?_⟩
    simp -dsimp -implicitDefEqProofs (disch := first | omega | assumption | (simp only [Option.isSome_some, Qt0]; done) | (simp only [UInt64.reduceToNat, UInt32.reduceToNat, UInt8.reduceToNat, List.length_cons, List.length_nil, List.length_append, Int.toNat_natCast] <;> omega) | fail) only [Nat.reduceLT, Nat.reduceLeDiff, Nat.reduceEqDiff, ↓reduceIte, Int.reduceLT, Int.reduceLE, Int.reduceToNat, Int.reduceEq, Int.reduceNe, Nat.reduceAdd, UInt8.reduceOfNat, UInt16.reduceOfNat, UInt32.reduceOfNat, UInt64.reduceOfNat, UInt64.reduceToNat, UInt32.reduceToNat, UInt16.reduceToNat, UInt8.reduceToNat, Int.reduceAdd, Int.reduceSub, Int.reduceMul, Nat.reduceMul, Qp0, Qp1, Ql0, Qe0, f1, f3, f5]
    refine Does_lit (vs := [.agg (itL (tI u) none 0).toArray, .agg (itL (nI m) none 0).toArray]) (sz := 5) (n := 2) el_it rfl rfl (by simp [cellsL, Value.cells, itL]) (by omega) (by omega) (fun gc hgc => ?_)
    have hlb := (hla.trans hlc).trans ((PH.Le.refl qc).new gc ⟨[.agg (itL (tI u) none 0).toArray, .agg (itL (nI m) none 0).toArray].flatMap cellsL, 2 * 5⟩ hgc)
    have hgm : (qc.new gc ⟨[.agg (itL (tI u) none 0).toArray, .agg (itL (nI m) none 0).toArray].flatMap cellsL, 2 * 5⟩).m gc = some ⟨[((tI u, none, 0) : Ip), (nI m, none, 0)].flatMap ipL, 2 * 5⟩ := by rw [PH.new_m, if_pos rfl]; rfl
    generalize qc.new gc ⟨[.agg (itL (tI u) none 0).toArray, .agg (itL (nI m) none 0).toArray].flatMap cellsL, 2 * 5⟩ = qb at *
    have howb := how1.more hlb
    refine ⟨hlb.sub, ?_⟩
    simp -dsimp -implicitDefEqProofs (disch := first | omega | assumption | (simp only [Option.isSome_some, Qt0]; done) | (simp only [UInt64.reduceToNat, UInt32.reduceToNat, UInt8.reduceToNat, List.length_cons, List.length_nil, List.length_append, Int.toNat_natCast] <;> omega) | fail) only [Nat.reduceLT, Nat.reduceLeDiff, Nat.reduceEqDiff, ↓reduceIte, Int.reduceLT, Int.reduceLE, Int.reduceToNat, Int.reduceEq, Int.reduceNe, Nat.reduceAdd, UInt8.reduceOfNat, UInt16.reduceOfNat, UInt32.reduceOfNat, UInt64.reduceOfNat, UInt64.reduceToNat, UInt32.reduceToNat, UInt16.reduceToNat, UInt8.reduceToNat, Int.reduceAdd, Int.reduceSub, Int.reduceMul, Nat.reduceMul, Qp0, Qp1, Ql0, Qe0, f1, f3, f5]
    refine app_items el_it (xs := [(tI u, none, 0), (nI m, none, 0)]) howb rfl hgm (by rw [List.length_append, eIp_len, List.length_take]; simp; omega) (fun v1 hx1 how2 hsub1 => ?_)
    refine ⟨fun w sw => hlb.sub w (hsub1 w sw), ?_⟩
    have hcat : [((nI 4, none, 0) : Ip)] ++ [(nI e.length, none, 0)] ++ eIp (e.take i) ++ [((tI u, none, 0) : Ip), (nI m, none, 0)] = [((nI 4, none, 0) : Ip)] ++ [(nI e.length, none, 0)] ++ eIp (e.take (i + 1)) := by
      rw [List.take_add_one, hx]; simp [eIp, List.flatMap_append]
    rw [hcat] at how2
    simp -dsimp -implicitDefEqProofs (disch := first | omega | assumption | (simp only [Option.isSome_some, Qt0]; done) | (simp only [UInt64.reduceToNat, UInt32.reduceToNat, UInt8.reduceToNat, List.length_cons, List.length_nil, List.length_append, Int.toNat_natCast] <;> omega) | fail) only [Nat.reduceLT, Nat.reduceLeDiff, Nat.reduceEqDiff, ↓reduceIte, Int.reduceLT, Int.reduceLE, Int.reduceToNat, Int.reduceEq, Int.reduceNe, Nat.reduceAdd, UInt8.reduceOfNat, UInt16.reduceOfNat, UInt32.reduceOfNat, UInt64.reduceOfNat, UInt64.reduceToNat, UInt32.reduceToNat, UInt16.reduceToNat, UInt8.reduceToNat, Int.reduceAdd, Int.reduceSub, Int.reduceMul, Nat.reduceMul, Qp0, Qp1, Ql0, Qe0, f1, f3, f5]
    exact ⟨n - 1, _, by omega, PH.Le.refl _, i + 1, _, by omega, by trivial, by trivial, by simp, how2⟩
end Go.Proofs.Ytdhgmifgjaedbaa


/- A message's bytes, read: the plain law. No condition. -/
namespace Go.Proofs.Ytdhgmifgjaedbaa
set_option linter.unusedVariables false
set_option linter.unusedSimpArgs false
open Go.RowKit Px Wr
def wB (y : Wt) : List UInt8 := textB (bytesW y)
/-- Writes, read one by one. -/
def WsRun (mt : Int) (len : Nat) : List Wt → St → St → Prop
  | [], a, b => a = b
  | c :: L, a, b => ∃ y s1, txtS mt len a = (y, s1) ∧ IsW y c ∧ WsRun mt len L s1 b
theorem WsRun.snoc {mt : Int} {len : Nat} : ∀ {L : List Wt} {a b c : St} {y : List UInt8} {d : Wt}, WsRun mt len L a b → txtS mt len b = (y, c) → IsW y d → WsRun mt len (L ++ [d]) a c
  | [], a, b, c, y, d, h1, h2, h3 => by
    obtain rfl : a = b := h1
    exact ⟨y, c, h2, h3, rfl⟩
  | x :: L, a, b, c, y, d, ⟨z, s1, e1, e2, e3⟩, h2, h3 => ⟨z, s1, e1, e2, e3.snoc h2 h3⟩
theorem WsRun.back {mt : Int} {len : Nat} : ∀ {L : List Wt} {a : St} {u : List UInt8}, WsRun mt len L a (.ok u) → a = .ok (L.flatMap wB ++ u)
  | [], a, u, h => h
  | c :: L, a, u, ⟨y, s1, e1, e2, e3⟩ => by
    have h1 := e3.back
    rw [h1] at e1
    rw [txtS_back e1, List.flatMap_cons, List.append_assoc, wB, e2.2]
theorem WsRun.fwd {mt : Int} {len : Nat} (hm : 1000 ≤ mt) : ∀ {L M : List Wt} {u : List UInt8} {b : St}, (∀ y ∈ M, rightW y = true) → L.length ≤ M.length → WsRun mt len L (.ok (M.flatMap wB ++ u)) b → L = M.take L.length ∧ b = .ok ((M.drop L.length).flatMap wB ++ u)
  | [], M, u, b, _, _, h => ⟨by simp, by have h : _ = b := h; rw [← h]; simp⟩
  | c :: L, [], u, b, _, hl, _ => by simp at hl
  | c :: L, d :: M, u, b, hr, hl, ⟨y, s1, e1, e2, e3⟩ => by
    have hd := hr d (List.mem_cons_self ..)
    have hb := bytesW_len hd
    rw [List.flatMap_cons, List.append_assoc, wB, txtS_fwd (by omega) (by omega)] at e1
    injection e1 with e1 e4
    subst e4
    obtain ⟨h1, h2⟩ := e3.fwd hm (fun z hz => hr z (List.mem_cons_of_mem _ hz)) (by simpa using hl)
    obtain rfl : c = d := IsW_one (s := y) e2 ⟨hd, e1.symm⟩
    refine ⟨?_, ?_⟩
    · rw [List.length_cons, List.take_succ_cons, ← h1]
    · rw [List.length_cons, List.drop_succ_cons, ← h2]
/-- What stands where a write is to be read. -/
theorem WsRun.next {mt : Int} {len : Nat} (hm : 1000 ≤ mt) {L M : List Wt} {u : List UInt8} {b c : St} {y : List UInt8} (hr : ∀ y ∈ M, rightW y = true) (hl : L.length < M.length) (h : WsRun mt len L (.ok (M.flatMap wB ++ u)) b) (hy : txtS mt len b = (y, c)) : ∃ d, IsW y d := by
  obtain ⟨h1, h2⟩ := h.fwd hm hr (by omega)
  have hd := hr _ (List.getElem_mem hl)
  rw [h2, List.drop_eq_getElem_cons hl, List.flatMap_cons, List.append_assoc, wB, txtS_fwd (by have := bytesW_len hd; omega) (by have := bytesW_len hd; omega)] at hy
  injection hy with hy _
  exact ⟨_, hd, hy.symm⟩
/-- Epochs, read one by one. -/
def EpRun (mu mn : Int) (len : Nat) : List Ep → St → St → Prop
  | [], a, b => a = b
  | p :: L, a, b => ∃ s1 n s2, txtS mu len a = (p.u, s1) ∧ numS mn len s1 = (n, s2) ∧ p.n = (n : Nat) ∧ EpRun mu mn len L s2 b
theorem EpRun.snoc {mu mn : Int} {len : Nat} : ∀ {L : List Ep} {a b c d : St} {u : List UInt8} {n : Nat}, EpRun mu mn len L a b → txtS mu len b = (u, c) → numS mn len c = (n, d) → EpRun mu mn len (L ++ [⟨u, n⟩]) a d
  | [], a, b, c, d, u, n, h1, h2, h3 => by
    obtain rfl : a = b := h1
    exact ⟨c, n, d, h2, h3, rfl, rfl⟩
  | x :: L, a, b, c, d, u, n, ⟨s1, k, s2, e1, e2, e3, e4⟩, h2, h3 => ⟨s1, k, s2, e1, e2, e3, e4.snoc h2 h3⟩
theorem EpRun.back {mu mn : Int} {len : Nat} : ∀ {L : List Ep} {a : St} {u : List UInt8}, EpRun mu mn len L a (.ok u) → a = .ok (L.flatMap epB ++ u)
  | [], a, u, h => h
  | p :: L, a, u, ⟨s1, n, s2, e1, e2, e3, e4⟩ => by
    have h1 := e4.back
    rw [h1] at e2
    have h2 := (numS_back e2).1
    rw [h2] at e1
    rw [txtS_back e1, List.flatMap_cons, epB, e3]
    simp
theorem EpRun.fwd {mu mn : Int} {len : Nat} (hu : 32 ≤ mu) (hn : 1099511627776 ≤ mn) : ∀ {L M : List Ep} {u : List UInt8} {b : St}, (∀ y ∈ M, rightEp y = true) → L.length ≤ M.length → EpRun mu mn len L (.ok (M.flatMap epB ++ u)) b → L = M.take L.length ∧ b = .ok ((M.drop L.length).flatMap epB ++ u)
  | [], M, u, b, _, _, h => ⟨by simp, by have h : _ = b := h; rw [← h]; simp⟩
  | c :: L, [], u, b, _, hl, _ => by simp at hl
  | p :: L, ⟨v, k⟩ :: M, u, b, hr, hl, ⟨s1, n, s2, e1, e2, e3, e4⟩ => by
    have hd := rightEp_iff.1 (hr ⟨v, k⟩ (List.mem_cons_self ..))
    rw [List.flatMap_cons, List.append_assoc, epB, List.append_assoc, txtS_fwd (by simp only; omega) (by simp only; omega)] at e1
    injection e1 with e1 e5
    subst e5
    rw [numS_fwd (by simp only; omega) (by simp only; omega) (by simp only; omega)] at e2
    injection e2 with e2 e6
    subst e6
    obtain ⟨h1, h2⟩ := e4.fwd hu hn (fun z hz => hr z (List.mem_cons_of_mem _ hz)) (by simpa using hl)
    have hp : p = ⟨v, k⟩ := by
      cases p
      simp only at e1 e3
      rw [← e1, e3, ← e2]
      simp only [Ep.mk.injEq, true_and]
      omega
    refine ⟨?_, ?_⟩
    · rw [List.length_cons, List.take_succ_cons, ← h1, hp]
    · rw [List.length_cons, List.drop_succ_cons, ← h2]
/-- The bounds that a reader sets. -/
structure Bd where
  k : Int
  t : Int
  u : Int
structure Bd.Ok (d : Bd) : Prop where
  k : 4 ≤ d.k
  t : 1000 ≤ d.t
  u : 32 ≤ d.u
/-- A message, read up to a state. -/
def RunM (d : Bd) (len : Nat) (s : List UInt8) (m : Ms) (st : St) : Prop :=
  ∃ k s1, numS d.k len (.ok s) = (k, s1) ∧
    ((k = 1 ∧ ∃ n s2 L, numS 8 len s1 = (n, s2) ∧ L.length = n ∧ WsRun d.t len L s2 st ∧ m = ⟨1, L, [], 0, 0, [], 0⟩) ∨
     (k = 2 ∧ ∃ v s2 c, vecS len s1 = (v, s2) ∧ numS 1099511627776 len s2 = (c, st) ∧ m = ⟨2, [], v, (c : Nat), 0, [], 0⟩) ∨
     (k = 3 ∧ ∃ t, numS 1099511627776 len s1 = (t, st) ∧ m = ⟨3, [], [], 0, (t : Nat), [], 0⟩) ∨
     (k = 4 ∧ ∃ n s2 L s3 x s4 t, numS 64 len s1 = (n, s2) ∧ L.length = n ∧ EpRun d.u 1099511627776 len L s2 s3 ∧ numS 1099511627776 len s3 = (x, s4) ∧ numS 1099511627776 len s4 = (t, st) ∧ m = ⟨4, [], [], 0, (t : Nat), L, (x : Nat)⟩) ∨
     (k ≠ 1 ∧ k ≠ 2 ∧ k ≠ 3 ∧ k ≠ 4 ∧ m.k = (k : Nat)))
theorem RunM.back {d : Bd} {len : Nat} {s : List UInt8} {m : Ms} (h : RunM d len s m (.ok [])) (hr : rightM m = true) : s = bytesM m := by
  obtain ⟨k, s1, h1, h2⟩ := h
  rcases h2 with ⟨rfl, n, s2, L, e1, e2, e3, rfl⟩ | ⟨rfl, v, s2, c, e1, e2, rfl⟩ | ⟨rfl, t, e1, rfl⟩ | ⟨rfl, n, s2, L, s3, x, s4, t, e1, e2, e3, e4, e5, rfl⟩ | ⟨n1, n2, n3, n4, e1⟩
  · have b1 := e3.back
    rw [b1] at e1
    have b2 := (numS_back e1).1
    rw [b2] at h1
    have b3 := (numS_back h1).1
    injection b3 with b3
    rw [b3, ← e2]
    unfold bytesM wsB
    simp [show wB = (fun y => textB (bytesW y)) from rfl]
  · have b1 := (numS_back e2).1
    rw [b1] at e1
    have b2 := (vecS_back e1).1
    rw [b2] at h1
    have b3 := (numS_back h1).1
    injection b3 with b3
    rw [b3]
    unfold bytesM
    simp
  · have b2 := (numS_back e1).1
    rw [b2] at h1
    have b3 := (numS_back h1).1
    injection b3 with b3
    rw [b3]
    unfold bytesM
    simp
  · have b1 := (numS_back e5).1
    rw [b1] at e4
    have b2 := (numS_back e4).1
    rw [b2] at e3
    have b3 := e3.back
    rw [b3] at e1
    have b4 := (numS_back e1).1
    rw [b4] at h1
    have b5 := (numS_back h1).1
    injection b5 with b5
    rw [b5, ← e2]
    unfold bytesM epsB
    simp
  · obtain ⟨K, w, v, c, t, e, x⟩ := m
    simp only at e1
    rw [rightM_5 _ _ _ _ _ _ (by omega) (by omega) (by omega) (by omega)] at hr
    cases hr
theorem numS_fit1 {m : Int} {n : Nat} {x : Nat} {u : List UInt8} (h1 : (x : Int) ≤ m) (h2 : x ≤ 1099511627776) : numS m n (.ok (numB x ++ u)) = (x, .ok u) := by
  have := @numS_fwd m n (x : Int) u (by omega) h1 (by omega)
  rwa [Int.toNat_natCast] at this
theorem RunM.fwd {d : Bd} (hd : d.Ok) {len : Nat} {m m' : Ms} {st : St} (hr : rightM m = true) (h : RunM d len (bytesM m) m' st) : m' = m ∧ st = .ok [] := by
  obtain ⟨k, w, v, c, t, e, x⟩ := m
  obtain ⟨k', s1, h1, h2⟩ := h
  have hk4 := hd.k
  rcases rightM_cases hr with ⟨rfl, g1, rfl, rfl, rfl, rfl, rfl⟩ | ⟨rfl, rfl, g1, g2, rfl, rfl, rfl⟩ | ⟨rfl, rfl, rfl, rfl, g1, rfl, rfl⟩ | ⟨rfl, rfl, rfl, rfl, g1, g2, g3⟩
  · obtain ⟨p1, p2, p3, p4⟩ := rightWs_parts g1
    have hb : bytesM ⟨1, w, [], 0, 0, [], 0⟩ = numB (1 : Nat) ++ (numB w.length ++ (w.flatMap wB ++ [])) := by unfold bytesM wsB; simp [show wB = (fun y => textB (bytesW y)) from rfl]
    rw [hb, numS_fit1 (by omega) (by omega)] at h1
    injection h1 with a1 a2
    subst a1; subst a2
    rcases h2 with ⟨_, n, s2, L, e1, e2, e3, rfl⟩ | ⟨h, _⟩ | ⟨h, _⟩ | ⟨h, _⟩ | ⟨h, _⟩
    · rw [numS_fit1 (by omega) (by omega)] at e1
      injection e1 with a1 a2
      subst a2
      obtain ⟨f1, f2⟩ := e3.fwd hd.t p3 (by omega)
      rw [List.take_of_length_le (by omega)] at f1
      rw [List.drop_eq_nil_of_le (by omega)] at f2
      exact ⟨by rw [f1], f2⟩
    all_goals omega
  · have hb : bytesM ⟨2, [], v, c, 0, [], 0⟩ = numB (2 : Nat) ++ (vecB v ++ (numB c.toNat ++ [])) := by unfold bytesM; simp
    have hN := isN_iff.1 g2
    rw [hb, numS_fit1 (by omega) (by omega)] at h1
    injection h1 with a1 a2
    subst a1; subst a2
    rcases h2 with ⟨h, _⟩ | ⟨_, v', s2, c', e1, e2, rfl⟩ | ⟨h, _⟩ | ⟨h, _⟩ | ⟨_, h, _⟩
    · omega
    · rw [vecS_fwd g1] at e1
      injection e1 with a1 a2
      subst a1; subst a2
      rw [numS_fwd hN.1 hN.2 hN.2] at e2
      injection e2 with a1 a2
      refine ⟨?_, a2.symm⟩
      rw [← a1]
      simp only [Ms.mk.injEq, true_and, and_true]
      omega
    all_goals omega
  · have hb : bytesM ⟨3, [], [], 0, t, [], 0⟩ = numB (3 : Nat) ++ (numB t.toNat ++ []) := by unfold bytesM; simp
    have hN := isN_iff.1 g1
    rw [hb, numS_fit1 (by omega) (by omega)] at h1
    injection h1 with a1 a2
    subst a1; subst a2
    rcases h2 with ⟨h, _⟩ | ⟨h, _⟩ | ⟨_, t', e1, rfl⟩ | ⟨h, _⟩ | ⟨_, _, h, _⟩
    · omega
    · omega
    · rw [numS_fwd hN.1 hN.2 hN.2] at e1
      injection e1 with a1 a2
      refine ⟨?_, a2.symm⟩
      rw [← a1]
      simp only [Ms.mk.injEq, true_and, and_true]
      omega
    all_goals omega
  · obtain ⟨p1, p2, p3⟩ := rightE_parts g2
    have hb : bytesM ⟨4, [], [], 0, t, e, x⟩ = numB (4 : Nat) ++ (numB e.length ++ (e.flatMap epB ++ (numB x.toNat ++ (numB t.toNat ++ [])))) := by unfold bytesM epsB; simp
    have hN := isN_iff.1 g1
    have hX := isN_iff.1 g3
    rw [hb, numS_fit1 (by omega) (by omega)] at h1
    injection h1 with a1 a2
    subst a1; subst a2
    rcases h2 with ⟨h, _⟩ | ⟨h, _⟩ | ⟨h, _⟩ | ⟨_, n, s2, L, s3, x', s4, t', e1, e2, e3, e4, e5, rfl⟩ | ⟨_, _, _, h, _⟩
    · omega
    · omega
    · omega
    · rw [numS_fit1 (by omega) (by omega)] at e1
      injection e1 with a1 a2
      subst a2
      obtain ⟨f1, f2⟩ := e3.fwd hd.u (by omega) p2 (by omega)
      rw [List.take_of_length_le (by omega)] at f1
      rw [List.drop_eq_nil_of_le (by omega), List.flatMap_nil, List.nil_append] at f2
      subst f2
      rw [numS_fwd hX.1 hX.2 hX.2] at e4
      injection e4 with b1 b2
      subst b2
      rw [numS_fwd hN.1 hN.2 hN.2] at e5
      injection e5 with c1 c2
      refine ⟨?_, c2.symm⟩
      rw [← b1, ← c1, f1]
      simp only [Ms.mk.injEq, true_and, and_true]
      omega
    · omega
/-- A write that can't be read. -/
theorem RunM.stuck {d : Bd} (hd : d.Ok) {len n : Nat} {s : List UInt8} {m : Ms} {s1 s2 b c : St} {L : List Wt} {y : List UInt8} (hr : rightM m = true) (hs : s = bytesM m) (h1 : numS d.k len (.ok s) = (1, s1)) (h2 : numS 8 len s1 = (n, s2)) (hl : L.length < n) (h3 : WsRun d.t len L s2 b) (h4 : txtS d.t len b = (y, c)) (hy : ∀ w, ¬ IsW y w) : False := by
  obtain ⟨k, w, v, c', t, e, x⟩ := m
  have hk4 := hd.k
  have hkb : 1 ≤ k ∧ k ≤ 4 := by rcases rightM_cases hr with h | h | h | h <;> (have := h.1; omega)
  rw [hs] at h1
  unfold bytesM at h1
  simp only at h1
  rw [numS_fwd (by omega) (by omega) (by omega)] at h1
  injection h1 with a1 a2
  rcases rightM_cases hr with ⟨rfl, g1, _⟩ | ⟨rfl, _⟩ | ⟨rfl, _⟩ | ⟨rfl, _⟩
  · obtain ⟨p1, p2, p3, p4⟩ := rightWs_parts g1
    rw [if_pos rfl] at a2
    have hb : wsB w = numB w.length ++ (w.flatMap wB ++ []) := by unfold wsB; simp [show wB = (fun y => textB (bytesW y)) from rfl]
    rw [hb] at a2
    subst a2
    rw [numS_fit1 (by omega) (by omega)] at h2
    injection h2 with b1 b2
    subst b2
    obtain ⟨d', hd'⟩ := h3.next hd.t p3 (by omega) h4
    exact hy _ hd'
  · simp at a1
  · simp at a1
  · simp at a1
end Go.Proofs.Ytdhgmifgjaedbaa


/- What is held while a message is read. No condition. -/
namespace Go.Proofs.Ytdhgmifgjaedbaa
set_option linter.unusedVariables false
set_option linter.unusedSimpArgs false
open Go.RowKit Px Wr
theorem Px.PH.Le.chg {h q q' : PH} {F : Nat → Prop} (l : PH.Le h q) (c : Chg F q q') (hF : ∀ x, F x → h.top ≤ x) : PH.Le h q' :=
  ⟨Nat.le_trans l.top c.top, fun x k e => c.m x k (l.m x k e) fun f => by have := h.lt _ _ e; have := hF x f; omega⟩
theorem Px.Stays.chg {h h' : PH} {v v' : Value} (s : Stays h h' v v') : Chg (fun x => v.ownBlock = some x) h h' := ⟨s.top, fun x k e n => s.keep x k e n⟩
/-- A write that was read: its vector lies apart. -/
def VecOk (w0 : World) (q : PH) (ib mb rb : Nat) (A : Option Addr) (y : Wp) : Prop := y.1.d.length ≤ y.2.2 ∧ Rv w0 q y.2.1 (ints y.1.d) ∧ (y.1.d ≠ [] → ∀ a, y.2.1 = some a → a.block < q.top ∧ a.block ≠ ib ∧ a.block ≠ mb ∧ a.block ≠ rb ∧ ∀ c, A = some c → a.block ≠ c.block)
theorem VecOk.chg {w0 : World} {q q' : PH} {F : Nat → Prop} {ib mb rb : Nat} {A : Option Addr} {y : Wp} (v : VecOk w0 q ib mb rb A y) (c : Chg F q q') (hF : ∀ x, x < q.top → F x → x = ib ∨ x = mb ∨ x = rb ∨ ∃ c, A = some c ∧ x = c.block) : VecOk w0 q' ib mb rb A y := by
  obtain ⟨h1, h2, h3⟩ := v
  by_cases hd : y.1.d = []
  · exact ⟨h1, by rw [hd]; exact Rv.nil _ _ _, fun h => absurd hd h⟩
  · refine ⟨h1, h2.chg c fun a ea f => ?_, fun _ a ea => ?_⟩
    · obtain ⟨g1, g2, g3, g4, g5⟩ := h3 hd a ea
      rcases hF _ g1 f with e | e | e | ⟨c, e, e2⟩
      · exact g2 e
      · exact g3 e
      · exact g4 e
      · exact g5 c e e2
    · obtain ⟨g1, g2⟩ := h3 hd a ea
      exact ⟨Nat.lt_of_lt_of_le g1 c.top, g2⟩
theorem VecOk.row {w0 : World} {q : PH} {ib mb rb : Nat} {A A' : Option Addr} {y : Wp} (v : VecOk w0 q ib mb rb A y) (hA : ∀ c', A' = some c' → (∃ c, A = some c ∧ c.block = c'.block) ∨ q.top ≤ c'.block) : VecOk w0 q ib mb rb A' y := by
  obtain ⟨h1, h2, h3⟩ := v
  refine ⟨h1, h2, fun hd a ea => ?_⟩
  obtain ⟨g1, g2, g3, g4, g5⟩ := h3 hd a ea
  refine ⟨g1, g2, g3, g4, fun c' e => ?_⟩
  rcases hA c' e with ⟨c, e1, e2⟩ | e1
  · rw [← e2]; exact g5 c e1
  · omega
theorem VecOk.fresh {w0 : World} {q0 q : PH} {ib mb rb : Nat} {A : Option Addr} {y : Wt} {B : Option Addr} {cap : Nat} (h1 : y.d.length ≤ cap) (h2 : Rv w0 q B (ints y.d)) (h3 : ∀ a, B = some a → q0.top ≤ a.block) (hut : w0.heap.size ≤ q0.top) (hi : ib < q0.top) (hm : mb < q0.top) (hr : rb < q0.top) (hA : ∀ c, A = some c → c.block < q0.top) : VecOk w0 q ib mb rb A (y, B, cap) := by
  refine ⟨h1, h2, fun hd a ea => ?_⟩
  have ea : B = some a := ea
  have hf := h3 a ea
  refine ⟨?_, by omega, by omega, by omega, fun c e => by have := hA c e; omega⟩
  obtain ⟨x, l, hl⟩ : ∃ x l, y.d = x :: l := by
    cases hy : y.d with
    | nil => exact absurd hy hd
    | cons x l => exact ⟨x, l, rfl⟩
  obtain ⟨b, o, e, hk⟩ := h2 0 (.int .i64 x) (by rw [hl]; rfl)
  rw [ea] at e
  injection e with e
  subst e
  rcases hk with ⟨k, hk, _⟩ | ⟨hk, _⟩
  · exact q.lt _ _ hk
  · have hf : q0.top ≤ b := hf
    omega
/-- What lies apart from the block of the result. -/
theorem MsR.chg {w0 : World} {q q' : PH} {F : Nat → Prop} {m : Ms} {p : Mp7} (r : MsR w0 q m p) (c : Chg F q q') (hA : ∀ a, p.A = some a → ¬ F a.block) (hB : ∀ a, p.B = some a → ¬ F a.block) (hC : ∀ a, p.C = some a → ¬ F a.block) (hW : ∀ y ∈ p.wp, y.1.d ≠ [] → ∀ a, y.2.1 = some a → ¬ F a.block) : MsR w0 q' m p := by
  refine ⟨r.ws, fun y hy => ?_, r.rw_.chg c hA, r.rv.chg c hB, r.re.chg c hC, r.la, r.lb, r.lc⟩
  obtain ⟨g1, g2⟩ := r.good y hy
  by_cases hd : y.1.d = []
  · exact ⟨g1, by rw [hd]; exact Rv.nil _ _ _⟩
  · exact ⟨g1, g2.chg c (hW y hy hd)⟩
def msZ : Ms := ⟨0, [], [], 0, 0, [], 0⟩
def mpZ : Mp7 := ⟨[], none, none, none, 0, 0, 0⟩
/-- What Decode tells. -/
def DEM (w0 : World) (h : PH) (s : List UInt8) (v : Value) : Prop :=
  (∃ m p, rightM m = true ∧ s = bytesM m ∧ v = .tuple #[.agg (msL m p).toArray, .nilIface] ∧ MsR w0 h m p ∧ Fits m) ∨ ((∀ m, rightM m = true → s ≠ bytesM m) ∧ ∃ ev e, v = .tuple #[.agg (msL msZ mpZ).toArray, ev] ∧ EV h e ev ∧ e.num = 2)
theorem txtS_most {m : Int} (hm : 0 ≤ m) {n : Nat} {y : List UInt8} {st st' : St} (h : txtS m n st = (y, st')) : (y.length : Int) ≤ m := by
  cases st with
  | bad p => rw [txtS_bad] at h; injection h with h _; rw [← h]; simp; exact hm
  | ok t =>
    cases hp : txtP t m with
    | none => unfold txtS St.step at h; simp only [hp] at h; injection h with h _; rw [← h]; simp; exact hm
    | some q =>
      obtain ⟨a, u⟩ := q
      have h2 := (txtP_inv hp).2
      unfold txtS St.step at h; simp only [hp] at h; injection h with h _
      rw [← h]; exact h2
theorem numS_most {m : Int} (hm : 0 ≤ m) {n x : Nat} {st st' : St} (h : numS m n st = (x, st')) : (x : Int) ≤ m := by
  cases st with
  | bad p => unfold numS St.step at h; injection h with h _; omega
  | ok t =>
    cases hp : numP t m with
    | none => unfold numS St.step at h; simp only [hp] at h; injection h with h _; omega
    | some q =>
      obtain ⟨a, u⟩ := q
      have h2 := (numP_inv hp).2.1
      unfold numS St.step at h; simp only [hp] at h; injection h with h _
      omega
end Go.Proofs.Ytdhgmifgjaedbaa

