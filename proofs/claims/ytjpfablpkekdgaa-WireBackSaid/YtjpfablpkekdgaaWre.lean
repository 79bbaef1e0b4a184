/- The document's bytes of claims and of writes. No condition. -/
import Derived.Test.YtjpfablpkekdgaaWrd
namespace Go.Proofs.Ytjpfablpkekdgaa
set_option linter.unusedVariables false
set_option linter.unusedSimpArgs false
open Go.RowKit Px Wr
theorem info_it : (Try.prog.info? 44).map (fun i => (i.zero, i.size, i.bytes)) = some (some (.agg #[.int .i64 0, .int .i64 0, .string ⟨#[]⟩, .bool false, .slice none 0 0]), 5, 64) := by kernel_rfl
theorem el_it : El Try.prog 35 44 (.agg #[.int .i64 0, .int .i64 0, .string ⟨#[]⟩, .bool false, .slice none 0 0]) 5 64 := ⟨Try.underlying35, info_parts info_it, rfl, by decide⟩
theorem flat_chunk {α : Type} (g : α → List Value) (m : Nat) (hg : ∀ a, (g a).length = m) : ∀ (L : List α) (i : Nat) (a : α), L[i]? = some a → ((L.flatMap g).drop (i * m)).take m = g a ∧ i * m + m ≤ (L.flatMap g).length
  | [], i, a, h => by simp at h
  | x :: L, 0, a, h => by
    simp at h
    subst h
    have := hg x
    simp only [List.flatMap_cons, Nat.zero_mul, List.drop_zero, List.length_append]
    exact ⟨by rw [← this, List.take_left], by omega⟩
  | x :: L, i + 1, a, h => by
    obtain ⟨h1, h2⟩ := flat_chunk g m hg L i a (by simpa using h)
    have := hg x
    simp only [List.flatMap_cons, List.length_append]
    refine ⟨?_, by rw [Nat.add_mul]; omega⟩
    rw [← h1, show (i + 1) * m = (g x).length + i * m by rw [this, Nat.add_mul]; omega, ← List.drop_drop, List.drop_left]
theorem itL_length (p : It × Option Addr × Nat) : (itL p.1 p.2.1 p.2.2).length = 5 := rfl
theorem Items.lit {w0 : World} {h : PH} {lb lim : Nat} (Ls : List (It × Option Addr × Nat)) (hm : h.m lb = some ⟨Ls.flatMap fun p => itL p.1 p.2.1 p.2.2, lim⟩)
    (hb : ∀ p ∈ Ls, p.1.N ≤ 9223372036854775807 ∧ p.1.S.length ≤ 900000 ∧ p.1.V.length ≤ 900000 ∧ p.1.V.length ≤ p.2.2 ∧ Rv w0 h p.2.1 (ints p.1.V)) : Items w0 h (some ⟨lb, 0, none⟩) (Ls.map (·.1)) := fun i x hx => by
  rw [List.getElem?_map] at hx
  obtain ⟨p, hp, rfl⟩ := Option.map_eq_some_iff.1 hx
  obtain ⟨h1, h2, h3, h4, h5⟩ := hb p (List.mem_of_getElem? hp)
  refine ⟨h1, h2, h3, lb, 0, p.2.1, p.2.2, rfl, h4, h5, fun h' hl _ => ?_⟩
  obtain ⟨g1, g2⟩ := flat_chunk (fun p : It × Option Addr × Nat => itL p.1 p.2.1 p.2.2) 5 itL_length Ls i p hp
  unfold rdN
  simp only [hl.m _ _ hm]
  rw [if_pos ⟨trivial, by simpa using g2⟩, Nat.zero_add, g1]
def tI (y : List UInt8) : It := ⟨1, 0, y, false, []⟩
def nI (n : Int) : It := ⟨0, n, [], false, []⟩
def fI (b : Bool) : It := ⟨2, 0, [], b, []⟩
def vI (v : List Int) : It := ⟨3, 0, [], false, v⟩
theorem step_t (s : WS) (y : List UInt8) : stepI s (tI y) = textM s y := by rw [← itemM_eq]; rfl
theorem step_n (s : WS) (n : Int) : stepI s (nI n) = numM s n := by rw [← itemM_eq]; rfl
theorem step_f (s : WS) (b : Bool) : stepI s (fI b) = flagM s b := by rw [← itemM_eq]; rfl
theorem step_v (s : WS) (v : List Int) : stepI s (vI v) = vecM s v := by rw [← itemM_eq]; rfl
set_option maxRecDepth 20000 in
set_option maxHeartbeats 4000000 in
theorem bytesC_any (w0 : World) (h : PH) (c : Cl) (A : Option Addr) (cap : Nat) (hr : Rv w0 h A (ints c.x)) (hc : c.x.length ≤ cap) (hb : rightC c = true) : PCalls Try.prog w0 26 [.agg (clL c A cap).toArray] h fun r h' => r = str (bytesC c) ∧ PH.Le h h' := by
  have hri := rightC_iff.1 hb
  have hx := trim_len (hri.2.2.2.2.2.2.2)
  refine PCalls_body Try.func26 (by kernel_rfl) rfl _ Try.ntmps26 (by kernel_rfl) (by kernel_rfl) _ Try.results26 ?_
  unfold clL
  simp -dsimp -implicitDefEqProofs (disch := first | omega | assumption | (simp only [Option.isSome_some, Qt0]; done) | (simp only [UInt64.reduceToNat, UInt32.reduceToNat, UInt8.reduceToNat, List.length_cons, List.length_nil, List.length_append, Int.toNat_natCast] <;> omega)) only [Nat.reduceLT, Nat.reduceLeDiff, Nat.reduceEqDiff, ↓reduceIte, beq_self_eq_true, List.getD_cons_zero, List.getD_cons_succ, Int.reduceLT, Int.reduceLE, Int.reduceToNat, Int.reduceEq, Int.reduceNe, Option.bind_some, List.map_cons, List.map_nil, List.zip_cons_cons, List.zip_nil_left, List.append_nil, List.nil_append, List.cons_append, List.length_cons, List.length_nil, Nat.reduceAdd, UInt8.reduceOfNat, UInt16.reduceOfNat, UInt32.reduceOfNat, UInt64.reduceOfNat, UInt64.reduceToNat, UInt32.reduceToNat, UInt16.reduceToNat, UInt8.reduceToNat, Int.reduceAdd, Int.reduceSub, Int.reduceMul, Nat.reduceMul, ne_eq, eq_self, Option.isNone_some, Option.isNone_none, List.length_set, List.length_replicate, List.getElem?_cons_zero, List.getElem?_cons_succ, Qp0, Qe0]
  refine fun pb hpb => ?_
  have hle := (PH.Le.refl h).new pb ⟨[str c.s, str c.u, .int .i64 c.e, .int .i64 c.i, .int .i64 c.k, .slice A c.x.length cap], 6⟩ hpb
  have hp : (h.new pb ⟨[str c.s, str c.u, .int .i64 c.e, .int .i64 c.i, .int .i64 c.k, .slice A c.x.length cap], 6⟩).m pb = some ⟨[str c.s, str c.u, .int .i64 c.e, .int .i64 c.i, .int .i64 c.k, .slice A c.x.length cap], 6⟩ := by rw [PH.new_m, if_pos rfl]
  have hr1 := hr.more hle
  simp -dsimp -implicitDefEqProofs (disch := first | omega | assumption | (simp only [Option.isSome_some, Qt0]; done) | (simp only [UInt64.reduceToNat, UInt32.reduceToNat, UInt8.reduceToNat, List.length_cons, List.length_nil, List.length_append, Int.toNat_natCast] <;> omega)) only [Nat.reduceLT, Nat.reduceLeDiff, Nat.reduceEqDiff, ↓reduceIte, beq_self_eq_true, List.getD_cons_zero, List.getD_cons_succ, Int.reduceLT, Int.reduceLE, Int.reduceToNat, Int.reduceEq, Int.reduceNe, Option.bind_some, List.map_cons, List.map_nil, List.zip_cons_cons, List.zip_nil_left, List.append_nil, List.nil_append, List.cons_append, List.length_cons, List.length_nil, Nat.reduceAdd, UInt8.reduceOfNat, UInt16.reduceOfNat, UInt32.reduceOfNat, UInt64.reduceOfNat, UInt64.reduceToNat, UInt32.reduceToNat, UInt16.reduceToNat, UInt8.reduceToNat, Int.reduceAdd, Int.reduceSub, Int.reduceMul, Nat.reduceMul, ne_eq, eq_self, Option.isNone_some, Option.isNone_none, List.length_set, List.length_replicate, List.getElem?_cons_zero, List.getElem?_cons_succ, Qp0, Qe0]
  generalize h.new pb ⟨[str c.s, str c.u, .int .i64 c.e, .int .i64 c.i, .int .i64 c.k, .slice A c.x.length cap], 6⟩ = h1 at *
  simp -dsimp -implicitDefEqProofs (disch := first | omega | assumption | (simp only [Option.isSome_some, Qt0]; done) | (simp only [UInt64.reduceToNat, UInt32.reduceToNat, UInt8.reduceToNat, List.length_cons, List.length_nil, List.length_append, Int.toNat_natCast] <;> omega)) only [Nat.reduceLT, Nat.reduceLeDiff, Nat.reduceEqDiff, ↓reduceIte, beq_self_eq_true, List.getD_cons_zero, List.getD_cons_succ, Int.reduceLT, Int.reduceLE, Int.reduceToNat, Int.reduceEq, Int.reduceNe, Option.bind_some, List.map_cons, List.map_nil, List.zip_cons_cons, List.zip_nil_left, List.append_nil, List.nil_append, List.cons_append, List.length_cons, List.length_nil, Nat.reduceAdd, UInt8.reduceOfNat, UInt16.reduceOfNat, UInt32.reduceOfNat, UInt64.reduceOfNat, UInt64.reduceToNat, UInt32.reduceToNat, UInt16.reduceToNat, UInt8.reduceToNat, Int.reduceAdd, Int.reduceSub, Int.reduceMul, Nat.reduceMul, ne_eq, eq_self, Option.isNone_some, Option.isNone_none, List.length_set, List.length_replicate, List.getElem?_cons_zero, List.getElem?_cons_succ, Qp0, Qe0, rd_M, rdM_some, hp]
  refine Does_lit (vs := [.agg (itL (tI c.s) none 0).toArray, .agg (itL (tI c.u) none 0).toArray, .agg (itL (nI c.e) none 0).toArray, .agg (itL (nI c.i) none 0).toArray, .agg (itL (nI c.k) none 0).toArray, .agg (itL (vI c.x) A cap).toArray]) (sz := 5) (n := 6) el_it rfl rfl (by simp [cellsL, Value.cells, itL]) (by omega) (by omega) (fun lb hlb => ?_)
  have hl2 := (PH.Le.refl h1).new lb ⟨[.agg (itL (tI c.s) none 0).toArray, .agg (itL (tI c.u) none 0).toArray, .agg (itL (nI c.e) none 0).toArray, .agg (itL (nI c.i) none 0).toArray, .agg (itL (nI c.k) none 0).toArray, .agg (itL (vI c.x) A cap).toArray].flatMap cellsL, 6 * 5⟩ hlb
  have hm2 : (h1.new lb ⟨[.agg (itL (tI c.s) none 0).toArray, .agg (itL (tI c.u) none 0).toArray, .agg (itL (nI c.e) none 0).toArray, .agg (itL (nI c.i) none 0).toArray, .agg (itL (nI c.k) none 0).toArray, .agg (itL (vI c.x) A cap).toArray].flatMap cellsL, 6 * 5⟩).m lb = some ⟨[(tI c.s, none, 0), (tI c.u, none, 0), (nI c.e, none, 0), (nI c.i, none, 0), (nI c.k, none, 0), (vI c.x, A, cap)].flatMap fun p : It × Option Addr × Nat => itL p.1 p.2.1 p.2.2, 6 * 5⟩ := by rw [PH.new_m, if_pos rfl]; rfl
  generalize h1.new lb ⟨[.agg (itL (tI c.s) none 0).toArray, .agg (itL (tI c.u) none 0).toArray, .agg (itL (nI c.e) none 0).toArray, .agg (itL (nI c.i) none 0).toArray, .agg (itL (nI c.k) none 0).toArray, .agg (itL (vI c.x) A cap).toArray].flatMap cellsL, 6 * 5⟩ = h2 at *
  have hI := Items.lit (w0 := w0) _ hm2 (fun p hp => by
    simp only [List.mem_cons, List.not_mem_nil, or_false] at hp
    rcases hp with rfl | rfl | rfl | rfl | rfl | rfl
    all_goals
      simp only [tI, nI, fI, vI, List.length_nil]
      refine ⟨by omega, by omega, by omega, by omega, ?_⟩
      first | exact Rv.nil _ _ _ | exact hr1.more hl2)
  have hW := written_any w0 h2 _ 6 _ (by simp) hI
  have hch : writtenM [tI c.s, tI c.u, nI c.e, nI c.i, nI c.k, vI c.x] = (bytesC c, none) := by
    unfold writtenM
    simp only [List.foldl_cons, List.foldl_nil, step_t, step_n, step_f, step_v]
    exact encC_chain hb
  simp only [List.map_cons, List.map_nil, List.length_cons, List.length_nil, Nat.zero_add, Nat.reduceAdd, hch] at hW
  have hW := Lib.hid hW
  simp -dsimp -implicitDefEqProofs (disch := first | omega | assumption | (simp only [Option.isSome_some, Qt0]; done) | (simp only [UInt64.reduceToNat, UInt32.reduceToNat, UInt8.reduceToNat, List.length_cons, List.length_nil, List.length_append, Int.toNat_natCast] <;> omega)) only [Nat.reduceLT, Nat.reduceLeDiff, Nat.reduceEqDiff, ↓reduceIte, beq_self_eq_true, List.getD_cons_zero, List.getD_cons_succ, Int.reduceLT, Int.reduceLE, Int.reduceToNat, Int.reduceEq, Int.reduceNe, Option.bind_some, List.map_cons, List.map_nil, List.zip_cons_cons, List.zip_nil_left, List.append_nil, List.nil_append, List.cons_append, List.length_cons, List.length_nil, Nat.reduceAdd, UInt8.reduceOfNat, UInt16.reduceOfNat, UInt32.reduceOfNat, UInt64.reduceOfNat, UInt64.reduceToNat, UInt32.reduceToNat, UInt16.reduceToNat, UInt8.reduceToNat, Int.reduceAdd, Int.reduceSub, Int.reduceMul, Nat.reduceMul, ne_eq, eq_self, Option.isNone_some, Option.isNone_none, List.length_set, List.length_replicate, List.getElem?_cons_zero, List.getElem?_cons_succ, Qp0, Qe0]
  refine hW.out.mono ?_
  rintro v q ⟨hv, hl3⟩
  have hv : v = .tuple #[str (bytesC c), .int .i64 0, .int .i64 0] := by
    rw [hv]
    first | rw [hch] | (show wres (writtenM [tI c.s, tI c.u, nI c.e, nI c.i, nI c.k, vI c.x]) = _; rw [hch])
    rfl
  subst hv
  simp -dsimp -implicitDefEqProofs (disch := first | omega | assumption | (simp only [Option.isSome_some, Qt0]; done) | (simp only [UInt64.reduceToNat, UInt32.reduceToNat, UInt8.reduceToNat, List.length_cons, List.length_nil, List.length_append, Int.toNat_natCast] <;> omega)) only [Nat.reduceLT, Nat.reduceLeDiff, Nat.reduceEqDiff, ↓reduceIte, beq_self_eq_true, List.getD_cons_zero, List.getD_cons_succ, Int.reduceLT, Int.reduceLE, Int.reduceToNat, Int.reduceEq, Int.reduceNe, Option.bind_some, List.map_cons, List.map_nil, List.zip_cons_cons, List.zip_nil_left, List.append_nil, List.nil_append, List.cons_append, List.length_cons, List.length_nil, Nat.reduceAdd, UInt8.reduceOfNat, UInt16.reduceOfNat, UInt32.reduceOfNat, UInt64.reduceOfNat, UInt64.reduceToNat, UInt32.reduceToNat, UInt16.reduceToNat, UInt8.reduceToNat, Int.reduceAdd, Int.reduceSub, Int.reduceMul, Nat.reduceMul, ne_eq, eq_self, Option.isNone_some, Option.isNone_none, List.length_set, List.length_replicate, List.getElem?_cons_zero, List.getElem?_cons_succ, Qp0, Qe0]
  exact ⟨_, PH.Le.refl _, by first | rfl | trivial, (hle.trans hl2).trans hl3⟩
set_option maxRecDepth 20000 in
set_option maxHeartbeats 4000000 in
theorem bytesW_any (w0 : World) (h : PH) (c : Wt) (A : Option Addr) (cap : Nat) (hr : Rv w0 h A (ints c.d)) (hc : c.d.length ≤ cap) (hb : rightW c = true) : PCalls Try.prog w0 31 [.agg (wtL c A cap).toArray] h fun r h' => r = str (bytesW c) ∧ PH.Le h h' := by
  have hri := rightW_iff.1 hb
  have hx := trim_len (hri.2.2.2.2.2.1)
  refine PCalls_body Try.func31 (by kernel_rfl) rfl _ Try.ntmps31 (by kernel_rfl) (by kernel_rfl) _ Try.results31 ?_
  unfold wtL
  simp -dsimp -implicitDefEqProofs (disch := first | omega | assumption | (simp only [Option.isSome_some, Qt0]; done) | (simp only [UInt64.reduceToNat, UInt32.reduceToNat, UInt8.reduceToNat, List.length_cons, List.length_nil, List.length_append, Int.toNat_natCast] <;> omega)) only [Nat.reduceLT, Nat.reduceLeDiff, Nat.reduceEqDiff, ↓reduceIte, beq_self_eq_true, List.getD_cons_zero, List.getD_cons_succ, Int.reduceLT, Int.reduceLE, Int.reduceToNat, Int.reduceEq, Int.reduceNe, Option.bind_some, List.map_cons, List.map_nil, List.zip_cons_cons, List.zip_nil_left, List.append_nil, List.nil_append, List.cons_append, List.length_cons, List.length_nil, Nat.reduceAdd, UInt8.reduceOfNat, UInt16.reduceOfNat, UInt32.reduceOfNat, UInt64.reduceOfNat, UInt64.reduceToNat, UInt32.reduceToNat, UInt16.reduceToNat, UInt8.reduceToNat, Int.reduceAdd, Int.reduceSub, Int.reduceMul, Nat.reduceMul, ne_eq, eq_self, Option.isNone_some, Option.isNone_none, List.length_set, List.length_replicate, List.getElem?_cons_zero, List.getElem?_cons_succ, Qp0, Qe0]
  refine fun pb hpb => ?_
  have hle := (PH.Le.refl h).new pb ⟨[.int .i64 c.r, .int .i64 c.n, .int .i64 c.t, .int .i64 c.q, .slice A c.d.length cap, str c.s, str c.k, str c.v, .bool c.g, .int .i64 c.l], 10⟩ hpb
  have hp : (h.new pb ⟨[.int .i64 c.r, .int .i64 c.n, .int .i64 c.t, .int .i64 c.q, .slice A c.d.length cap, str c.s, str c.k, str c.v, .bool c.g, .int .i64 c.l], 10⟩).m pb = some ⟨[.int .i64 c.r, .int .i64 c.n, .int .i64 c.t, .int .i64 c.q, .slice A c.d.length cap, str c.s, str c.k, str c.v, .bool c.g, .int .i64 c.l], 10⟩ := by rw [PH.new_m, if_pos rfl]
  have hr1 := hr.more hle
  simp -dsimp -implicitDefEqProofs (disch := first | omega | assumption | (simp only [Option.isSome_some, Qt0]; done) | (simp only [UInt64.reduceToNat, UInt32.reduceToNat, UInt8.reduceToNat, List.length_cons, List.length_nil, List.length_append, Int.toNat_natCast] <;> omega)) only [Nat.reduceLT, Nat.reduceLeDiff, Nat.reduceEqDiff, ↓reduceIte, beq_self_eq_true, List.getD_cons_zero, List.getD_cons_succ, Int.reduceLT, Int.reduceLE, Int.reduceToNat, Int.reduceEq, Int.reduceNe, Option.bind_some, List.map_cons, List.map_nil, List.zip_cons_cons, List.zip_nil_left, List.append_nil, List.nil_append, List.cons_append, List.length_cons, List.length_nil, Nat.reduceAdd, UInt8.reduceOfNat, UInt16.reduceOfNat, UInt32.reduceOfNat, UInt64.reduceOfNat, UInt64.reduceToNat, UInt32.reduceToNat, UInt16.reduceToNat, UInt8.reduceToNat, Int.reduceAdd, Int.reduceSub, Int.reduceMul, Nat.reduceMul, ne_eq, eq_self, Option.isNone_some, Option.isNone_none, List.length_set, List.length_replicate, List.getElem?_cons_zero, List.getElem?_cons_succ, Qp0, Qe0]
  generalize h.new pb ⟨[.int .i64 c.r, .int .i64 c.n, .int .i64 c.t, .int .i64 c.q, .slice A c.d.length cap, str c.s, str c.k, str c.v, .bool c.g, .int .i64 c.l], 10⟩ = h1 at *
  simp -dsimp -implicitDefEqProofs (disch := first | omega | assumption | (simp only [Option.isSome_some, Qt0]; done) | (simp only [UInt64.reduceToNat, UInt32.reduceToNat, UInt8.reduceToNat, List.length_cons, List.length_nil, List.length_append, Int.toNat_natCast] <;> omega)) only [Nat.reduceLT, Nat.reduceLeDiff, Nat.reduceEqDiff, ↓reduceIte, beq_self_eq_true, List.getD_cons_zero, List.getD_cons_succ, Int.reduceLT, Int.reduceLE, Int.reduceToNat, Int.reduceEq, Int.reduceNe, Option.bind_some, List.map_cons, List.map_nil, List.zip_cons_cons, List.zip_nil_left, List.append_nil, List.nil_append, List.cons_append, List.length_cons, List.length_nil, Nat.reduceAdd, UInt8.reduceOfNat, UInt16.reduceOfNat, UInt32.reduceOfNat, UInt64.reduceOfNat, UInt64.reduceToNat, UInt32.reduceToNat, UInt16.reduceToNat, UInt8.reduceToNat, Int.reduceAdd, Int.reduceSub, Int.reduceMul, Nat.reduceMul, ne_eq, eq_self, Option.isNone_some, Option.isNone_none, List.length_set, List.length_replicate, List.getElem?_cons_zero, List.getElem?_cons_succ, Qp0, Qe0, rd_M, rdM_some, hp]
  refine Does_lit (vs := [.agg (itL (nI c.r) none 0).toArray, .agg (itL (nI c.n) none 0).toArray, .agg (itL (nI c.t) none 0).toArray, .agg (itL (vI c.d) A cap).toArray, .agg (itL (tI c.s) none 0).toArray, .agg (itL (tI c.k) none 0).toArray, .agg (itL (fI c.g) none 0).toArray, .agg (itL (tI c.v) none 0).toArray, .agg (itL (nI c.l) none 0).toArray]) (sz := 5) (n := 9) el_it rfl rfl (by simp [cellsL, Value.cells, itL]) (by omega) (by omega) (fun lb hlb => ?_)
  have hl2 := (PH.Le.refl h1).new lb ⟨[.agg (itL (nI c.r) none 0).toArray, .agg (itL (nI c.n) none 0).toArray, .agg (itL (nI c.t) none 0).toArray, .agg (itL (vI c.d) A cap).toArray, .agg (itL (tI c.s) none 0).toArray, .agg (itL (tI c.k) none 0).toArray, .agg (itL (fI c.g) none 0).toArray, .agg (itL (tI c.v) none 0).toArray, .agg (itL (nI c.l) none 0).toArray].flatMap cellsL, 9 * 5⟩ hlb
  have hm2 : (h1.new lb ⟨[.agg (itL (nI c.r) none 0).toArray, .agg (itL (nI c.n) none 0).toArray, .agg (itL (nI c.t) none 0).toArray, .agg (itL (vI c.d) A cap).toArray, .agg (itL (tI c.s) none 0).toArray, .agg (itL (tI c.k) none 0).toArray, .agg (itL (fI c.g) none 0).toArray, .agg (itL (tI c.v) none 0).toArray, .agg (itL (nI c.l) none 0).toArray].flatMap cellsL, 9 * 5⟩).m lb = some ⟨[(nI c.r, none, 0), (nI c.n, none, 0), (nI c.t, none, 0), (vI c.d, A, cap), (tI c.s, none, 0), (tI c.k, none, 0), (fI c.g, none, 0), (tI c.v, none, 0), (nI c.l, none, 0)].flatMap fun p : It × Option Addr × Nat => itL p.1 p.2.1 p.2.2, 9 * 5⟩ := by rw [PH.new_m, if_pos rfl]; rfl
  generalize h1.new lb ⟨[.agg (itL (nI c.r) none 0).toArray, .agg (itL (nI c.n) none 0).toArray, .agg (itL (nI c.t) none 0).toArray, .agg (itL (vI c.d) A cap).toArray, .agg (itL (tI c.s) none 0).toArray, .agg (itL (tI c.k) none 0).toArray, .agg (itL (fI c.g) none 0).toArray, .agg (itL (tI c.v) none 0).toArray, .agg (itL (nI c.l) none 0).toArray].flatMap cellsL, 9 * 5⟩ = h2 at *
  have hI := Items.lit (w0 := w0) _ hm2 (fun p hp => by
    simp only [List.mem_cons, List.not_mem_nil, or_false] at hp
    rcases hp with rfl | rfl | rfl | rfl | rfl | rfl | rfl | rfl | rfl
    all_goals
      simp only [tI, nI, fI, vI, List.length_nil]
      refine ⟨by omega, by omega, by omega, by omega, ?_⟩
      first | exact Rv.nil _ _ _ | exact hr1.more hl2)
  have hW := written_any w0 h2 _ 9 _ (by simp) hI
  have hch : writtenM [nI c.r, nI c.n, nI c.t, vI c.d, tI c.s, tI c.k, fI c.g, tI c.v, nI c.l] = (bytesW c, none) := by
    unfold writtenM
    simp only [List.foldl_cons, List.foldl_nil, step_t, step_n, step_f, step_v]
    exact encW_chain hb
  simp only [List.map_cons, List.map_nil, List.length_cons, List.length_nil, Nat.zero_add, Nat.reduceAdd, hch] at hW
  have hW := Lib.hid hW
  simp -dsimp -implicitDefEqProofs (disch := first | omega | assumption | (simp only [Option.isSome_some, Qt0]; done) | (simp only [UInt64.reduceToNat, UInt32.reduceToNat, UInt8.reduceToNat, List.length_cons, List.length_nil, List.length_append, Int.toNat_natCast] <;> omega)) only [Nat.reduceLT, Nat.reduceLeDiff, Nat.reduceEqDiff, ↓reduceIte, beq_self_eq_true, List.getD_cons_zero, List.getD_cons_succ, Int.reduceLT, Int.reduceLE, Int.reduceToNat, Int.reduceEq, Int.reduceNe, Option.bind_some, List.map_cons, List.map_nil, List.zip_cons_cons, List.zip_nil_left, List.append_nil, List.nil_append, List.cons_append, List.length_cons, List.length_nil, Nat.reduceAdd, UInt8.reduceOfNat, UInt16.reduceOfNat, UInt32.reduceOfNat, UInt64.reduceOfNat, UInt64.reduceToNat, UInt32.reduceToNat, UInt16.reduceToNat, UInt8.reduceToNat, Int.reduceAdd, Int.reduceSub, Int.reduceMul, Nat.reduceMul, ne_eq, eq_self, Option.isNone_some, Option.isNone_none, List.length_set, List.length_replicate, List.getElem?_cons_zero, List.getElem?_cons_succ, Qp0, Qe0]
  refine hW.out.mono ?_
  rintro v q ⟨hv, hl3⟩
  have hv : v = .tuple #[str (bytesW c), .int .i64 0, .int .i64 0] := by
    rw [hv]
    first | rw [hch] | (show wres (writtenM [nI c.r, nI c.n, nI c.t, vI c.d, tI c.s, tI c.k, fI c.g, tI c.v, nI c.l]) = _; rw [hch])
    rfl
  subst hv
  simp -dsimp -implicitDefEqProofs (disch := first | omega | assumption | (simp only [Option.isSome_some, Qt0]; done) | (simp only [UInt64.reduceToNat, UInt32.reduceToNat, UInt8.reduceToNat, List.length_cons, List.length_nil, List.length_append, Int.toNat_natCast] <;> omega)) only [Nat.reduceLT, Nat.reduceLeDiff, Nat.reduceEqDiff, ↓reduceIte, beq_self_eq_true, List.getD_cons_zero, List.getD_cons_succ, Int.reduceLT, Int.reduceLE, Int.reduceToNat, Int.reduceEq, Int.reduceNe, Option.bind_some, List.map_cons, List.map_nil, List.zip_cons_cons, List.zip_nil_left, List.append_nil, List.nil_append, List.cons_append, List.length_cons, List.length_nil, Nat.reduceAdd, UInt8.reduceOfNat, UInt16.reduceOfNat, UInt32.reduceOfNat, UInt64.reduceOfNat, UInt64.reduceToNat, UInt32.reduceToNat, UInt16.reduceToNat, UInt8.reduceToNat, Int.reduceAdd, Int.reduceSub, Int.reduceMul, Nat.reduceMul, ne_eq, eq_self, Option.isNone_some, Option.isNone_none, List.length_set, List.length_replicate, List.getElem?_cons_zero, List.getElem?_cons_succ, Qp0, Qe0]
  exact ⟨_, PH.Le.refl _, by first | rfl | trivial, (hle.trans hl2).trans hl3⟩
end Go.Proofs.Ytjpfablpkekdgaa
