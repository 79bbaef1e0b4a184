/- Walk of the law's does: an operation at both devices. No condition. -/
import Derived.Test.YtcjojkhieocehaaDoorBr5
import Derived.Test.YtcjojkhieocehaaDoorBk9
namespace Go.Proofs.YtcjojkhieocehaaDoor
set_option linter.unusedVariables false
set_option linter.unusedSimpArgs false
open Go.RowKit Px
def DOES (h0 : PH) (b c : Nat) (v : Value) (h' : PH) : Prop := v = .bool true ∧ ∃ g' d', PH.Le (h0.del c) g' ∧ DS g' h' b d' ∧ g'.m c = some ⟨vK d', 5⟩ ∧ Good d'
theorem DOES.mk {h0 g h1 : PH} {b c vb ob : Nat} {kv ko : Bk} {d' : Dk} (hc : (h0.m c).isSome = true) (hl : PH.Le (h0.del c) g) (hgc : (g.m c).isSome = true) (hd : DS g h1 b d') (g' : Good d') : DOES h0 b c (.bool true) (h1.new c ⟨vK d', 5⟩) := by
  obtain ⟨k0, hk0⟩ := Option.isSome_iff_exists.1 hgc
  refine ⟨rfl, g.new c ⟨vK d', 5⟩, d', ⟨by have := hl.top; simp only [PH.new_top] at *; omega, fun x k e => ?_⟩, hd.put hk0 _, by rw [PH.new_m, if_pos rfl], g'⟩
  have hx : x ≠ c := fun e' => by subst e'; rw [PH.del_m, if_pos rfl] at e; cases e
  rw [PH.new_m, if_neg hx]
  exact hl.m x k e
section
variable (h0 : PH) (db c : Nat) (d : Dk) (w0 : World) (h : PH)
set_option maxRecDepth 20000 in
set_option maxHeartbeats 4000000 in
theorem does_any (hg : w0.cell? ⟨0, 0, none⟩ = some (rtV 26)) (hd : DS h0 h db d) (hc : h0.m c = some ⟨vK d, 5⟩) (gd : Good d) (K N M : Int) (s : List UInt8) (hs : s.length ≤ 3000) (hN : N ≤ 9223372036854775807) : PCalls Tryd.prog w0 9 [.pointer (some ⟨db, 0, none⟩), .pointer (some ⟨c, 0, none⟩), .agg #[.int .i64 K, str s, .int .i64 N, .int .i64 M]] h fun v h' => DOES h0 db c v h' := by
  refine PCalls_body Tryd.func9 (by kernel_rfl) rfl _ Tryd.ntmps9 (by kernel_rfl) (by kernel_rfl) _ Tryd.results9 ?_
  simp -dsimp -implicitDefEqProofs (disch := first | omega | assumption | (simp only [Option.isSome_some, Qt0]; done) | (simp only [UInt64.reduceToNat, UInt32.reduceToNat, UInt8.reduceToNat, List.length_cons, List.length_nil, List.length_append, Int.toNat_natCast] <;> omega) | fail) only [Nat.reduceLT, Nat.reduceLeDiff, Nat.reduceEqDiff, ↓reduceIte, Int.reduceLT, Int.reduceLE, Int.reduceToNat, Int.reduceEq, Int.reduceNe, Nat.reduceAdd, UInt8.reduceOfNat, UInt16.reduceOfNat, UInt32.reduceOfNat, UInt64.reduceOfNat, UInt64.reduceToNat, UInt32.reduceToNat, UInt16.reduceToNat, UInt8.reduceToNat, Int.reduceAdd, Int.reduceSub, Int.reduceMul, Nat.reduceMul, Qp0, Ql0, Qe0]
  refine fun vb hvb => ?_
  have hvb' : h.top ≤ vb := hvb
  have hclt := h0.lt _ _ hc
  have htop := hd.top
  obtain ⟨h1, hh1⟩ : ∃ h1, h.new vb ⟨(Value.pointer (some ⟨c, 0, none⟩)).cells.toList, (Value.pointer (some ⟨c, 0, none⟩)).cells.size⟩ = h1 := ⟨_, rfl⟩
  have hd1 : DS (h0.new vb ⟨[.pointer (some ⟨c, 0, none⟩)], 1⟩) h1 db d := by rw [← hh1]; exact hd.both hvb' _
  have hh1t : h1.top = max h.top (vb + 1) := by rw [← hh1]; rfl
  simp -dsimp -implicitDefEqProofs (disch := first | omega | assumption | (simp only [Option.isSome_some, Qt0]; done) | (simp only [UInt64.reduceToNat, UInt32.reduceToNat, UInt8.reduceToNat, List.length_cons, List.length_nil, List.length_append, Int.toNat_natCast] <;> omega) | fail) only [Nat.reduceLT, Nat.reduceLeDiff, Nat.reduceEqDiff, ↓reduceIte, Int.reduceLT, Int.reduceLE, Int.reduceToNat, Int.reduceEq, Int.reduceNe, Nat.reduceAdd, UInt8.reduceOfNat, UInt16.reduceOfNat, UInt32.reduceOfNat, UInt64.reduceOfNat, UInt64.reduceToNat, UInt32.reduceToNat, UInt16.reduceToNat, UInt8.reduceToNat, Int.reduceAdd, Int.reduceSub, Int.reduceMul, Nat.reduceMul, Qp0, Ql0, Qe0, hh1]
  refine fun ob hob => ?_
  have hob' : h1.top ≤ ob := hob
  obtain ⟨H, hH⟩ : ∃ H, h1.new ob ⟨[.int .i64 K, str s, .int .i64 N, .int .i64 M], 4⟩ = H := ⟨_, rfl⟩
  have hd2 : DS ((h0.new vb ⟨[.pointer (some ⟨c, 0, none⟩)], 1⟩).new ob ⟨[.int .i64 K, str s, .int .i64 N, .int .i64 M], 4⟩) H db d := by rw [← hH]; exact hd1.both hob' _
  have hvb2 : vb + 1 ≤ ob := by omega
  obtain ⟨G, hG⟩ : ∃ G, (h0.new vb ⟨[.pointer (some ⟨c, 0, none⟩)], 1⟩).new ob ⟨[.int .i64 K, str s, .int .i64 N, .int .i64 M], 4⟩ = G := ⟨_, rfl⟩
  have hGl : PH.Le h0 G := by rw [← hG]; exact ((PH.Le.refl h0).new _ _ (by omega)).new _ _ (by omega)
  have hGv : G.m vb = some ⟨[.pointer (some ⟨c, 0, none⟩)], 1⟩ := by rw [← hG, PH.new_m, if_neg (by omega), PH.new_m, if_pos rfl]
  have hGo : G.m ob = some ⟨[.int .i64 K, str s, .int .i64 N, .int .i64 M], 4⟩ := by rw [← hG, PH.new_m, if_pos rfl]
  have hGc : G.m c = some ⟨vK d, 5⟩ := hGl.m _ _ hc
  rw [hG] at hd2
  simp -dsimp -implicitDefEqProofs (disch := first | omega | assumption | (simp only [Option.isSome_some, Qt0]; done) | (simp only [UInt64.reduceToNat, UInt32.reduceToNat, UInt8.reduceToNat, List.length_cons, List.length_nil, List.length_append, Int.toNat_natCast] <;> omega) | fail) only [Nat.reduceLT, Nat.reduceLeDiff, Nat.reduceEqDiff, ↓reduceIte, Int.reduceLT, Int.reduceLE, Int.reduceToNat, Int.reduceEq, Int.reduceNe, Nat.reduceAdd, UInt8.reduceOfNat, UInt16.reduceOfNat, UInt32.reduceOfNat, UInt64.reduceOfNat, UInt64.reduceToNat, UInt32.reduceToNat, UInt16.reduceToNat, UInt8.reduceToNat, Int.reduceAdd, Int.reduceSub, Int.reduceMul, Nat.reduceMul, Qp0, Ql0, Qe0, hH]
  clear hG hd1 hd hH hh1 hob hvb
  obtain ⟨S, hS⟩ : ∃ S, S = G.del c := ⟨_, rfl⟩
  have hSv : S.m vb = some ⟨[.pointer (some ⟨c, 0, none⟩)], 1⟩ := by rw [hS, PH.del_m, if_neg (by omega)]; exact hGv
  have hSo : S.m ob = some ⟨[.int .i64 K, str s, .int .i64 N, .int .i64 M], 4⟩ := by rw [hS, PH.del_m, if_neg (by omega)]; exact hGo
  have hSG : ∀ {x : PH} {d1 : Dk}, DS G x db d1 → PH.Le S x := fun q => by rw [hS]; exact (PH.Le.mk q.top q.same).del_self c
  have hSp : ∀ {x : PH} {d1 : Dk} (k : Bk), DS G x db d1 → PH.Le S (x.new c k) := fun k q => by
    rw [hS]
    refine PH.Le.trans ((PH.Le.refl G).del_self c |>.trans (PH.Le.refl G) |> fun _ => ?_) (PH.Le.del_new _ c k (by rw [q.same _ _ hGc]; rfl))
    exact ⟨q.top, fun x k e => by
      rw [PH.del_m] at e ⊢
      by_cases hx : x = c
      · rw [if_pos hx] at e; cases e
      · rw [if_neg hx] at e ⊢; exact q.same x k e⟩
  have h0c : (h0.m c).isSome = true := by rw [hc]; rfl
  have h0l : PH.Le (h0.del c) G := hGl.del_self c
  have hGs : (G.m c).isSome = true := by rw [hGc]; rfl
  have hHv := hd2.same _ _ hGv
  have hHo := hd2.same _ _ hGo
  have hHc := hd2.same _ _ hGc
  have pc : ∀ {x : PH} {d1 : Dk}, DS G x db d1 → x.m c = some ⟨vK d, 5⟩ := fun q => q.same _ _ hGc
  have pv : ∀ {x : PH} {d1 : Dk} (k : Bk), DS G x db d1 → (x.new c k).m vb = some ⟨[.pointer (some ⟨c, 0, none⟩)], 1⟩ := fun k q => by rw [PH.new_m, if_neg (by omega)]; exact q.same _ _ hGv
  have po : ∀ {x : PH} {d1 : Dk} (k : Bk), DS G x db d1 → (x.new c k).m ob = some ⟨[.int .i64 K, str s, .int .i64 N, .int .i64 M], 4⟩ := fun k q => by rw [PH.new_m, if_neg (by omega)]; exact q.same _ _ hGo
  have pd : ∀ (x : PH) (d1 : Dk), (x.new c ⟨vK d1, 5⟩).m c = some ⟨vK d1, 5⟩ := fun x d1 => by rw [PH.new_m, if_pos rfl]

  by_cases q0 : K = 0
  · have e0 := decide_eq_true q0
    have hA := Lib.hid (append_any G db d w0 H hd2 gd s (by omega))
    simp -dsimp -implicitDefEqProofs (disch := first | omega | assumption | (simp only [Option.isSome_some, Qt0]; done) | (simp only [UInt64.reduceToNat, UInt32.reduceToNat, UInt8.reduceToNat, List.length_cons, List.length_nil, List.length_append, Int.toNat_natCast] <;> omega) | fail) only [Nat.reduceLT, Nat.reduceLeDiff, Nat.reduceEqDiff, ↓reduceIte, Int.reduceLT, Int.reduceLE, Int.reduceToNat, Int.reduceEq, Int.reduceNe, Nat.reduceAdd, UInt8.reduceOfNat, UInt16.reduceOfNat, UInt32.reduceOfNat, UInt64.reduceOfNat, UInt64.reduceToNat, UInt32.reduceToNat, UInt16.reduceToNat, UInt8.reduceToNat, Int.reduceAdd, Int.reduceSub, Int.reduceMul, Nat.reduceMul, Qp0, Ql0, Qe0, rd_M, rdM_some, hHo, e0]
    refine PW_tr (.take 0 (.take 1 (.take 2 (.take 4 (.take 5 (.take 6 (.take 3 (.take 7 (.take 8 (.take 9 .done)))))))))) S (by kernel_rfl) (by decide +kernel) (by kernel_rfl) (by kernel_rfl) (by kernel_rfl) (fun c f h hq => by simp only [thenC_panic, thenK_panic, inBlk_panic, thenN_panic, vcRet_panic] at hq) (hSG hd2).sub ?_
    simp -dsimp -implicitDefEqProofs (disch := first | omega | assumption | (simp only [Option.isSome_some, Qt0]; done) | (simp only [UInt64.reduceToNat, UInt32.reduceToNat, UInt8.reduceToNat, List.length_cons, List.length_nil, List.length_append, Int.toNat_natCast] <;> omega) | fail) only [Nat.reduceLT, Nat.reduceLeDiff, Nat.reduceEqDiff, ↓reduceIte, Int.reduceLT, Int.reduceLE, Int.reduceToNat, Int.reduceEq, Int.reduceNe, Nat.reduceAdd, UInt8.reduceOfNat, UInt16.reduceOfNat, UInt32.reduceOfNat, UInt64.reduceOfNat, UInt64.reduceToNat, UInt32.reduceToNat, UInt16.reduceToNat, UInt8.reduceToNat, Int.reduceAdd, Int.reduceSub, Int.reduceMul, Nat.reduceMul, Qp0, Ql0, Qe0, vcUS_done, vcUS_take, vcUS_only, vcUS_both, vcUS_last, vcUO_some, vcUL_some, vcUE_some, rd_M, rdM_some, hSv, hSo, hHo, hHv]
    refine hA.out.mono ?_
    rintro u h1 ⟨hd3, hu⟩
    refine ⟨(hSG hd3).sub, ?_⟩
    have hB := Lib.hid (rappend_any c d w0 h1 (pc hd3) gd s (by omega))
    simp -dsimp -implicitDefEqProofs (disch := first | omega | assumption | (simp only [Option.isSome_some, Qt0]; done) | (simp only [UInt64.reduceToNat, UInt32.reduceToNat, UInt8.reduceToNat, List.length_cons, List.length_nil, List.length_append, Int.toNat_natCast] <;> omega) | fail) only [Nat.reduceLT, Nat.reduceLeDiff, Nat.reduceEqDiff, ↓reduceIte, Int.reduceLT, Int.reduceLE, Int.reduceToNat, Int.reduceEq, Int.reduceNe, Nat.reduceAdd, UInt8.reduceOfNat, UInt16.reduceOfNat, UInt32.reduceOfNat, UInt64.reduceOfNat, UInt64.reduceToNat, UInt32.reduceToNat, UInt16.reduceToNat, UInt8.reduceToNat, Int.reduceAdd, Int.reduceSub, Int.reduceMul, Nat.reduceMul, Qp0, Ql0, Qe0, vcUS_done, vcUS_take, vcUS_only, vcUS_both, vcUS_last, vcUO_some, vcUL_some, vcUE_some, rd_M, rdM_some, hSv, hSo]
    refine hB.out.mono ?_
    rintro v h2 ⟨rfl, rfl⟩
    refine ⟨(hSp _ hd3).sub, ?_⟩
    have hsz := Lib.hid (size_any (d.append s).1 w0 _ c vb (pv _ hd3) (pd _ _) (gd.append s))
    have hto := Lib.hid (told_any (d.append s).1 w0 _ hg u (d.append s).2 (hu.put (pc hd3) (show (5 : Nat) ≠ 3 by decide) ⟨vK (d.append s).1, 5⟩) (Dk.append_told d s))
    have hfin := DOES.mk (vb := vb) (ob := ob) (kv := ⟨[], 0⟩) (ko := ⟨[], 0⟩) h0c h0l hGs hd3 (gd.append s)
    simp -dsimp -implicitDefEqProofs (disch := first | omega | assumption | (simp only [Option.isSome_some, Qt0]; done) | (simp only [UInt64.reduceToNat, UInt32.reduceToNat, UInt8.reduceToNat, List.length_cons, List.length_nil, List.length_append, Int.toNat_natCast] <;> omega) | fail) only [Nat.reduceLT, Nat.reduceLeDiff, Nat.reduceEqDiff, ↓reduceIte, Int.reduceLT, Int.reduceLE, Int.reduceToNat, Int.reduceEq, Int.reduceNe, Nat.reduceAdd, UInt8.reduceOfNat, UInt16.reduceOfNat, UInt32.reduceOfNat, UInt64.reduceOfNat, UInt64.reduceToNat, UInt32.reduceToNat, UInt16.reduceToNat, UInt8.reduceToNat, Int.reduceAdd, Int.reduceSub, Int.reduceMul, Nat.reduceMul, Qp0, Ql0, Qe0, vcUS_done, vcUS_take, vcUS_only, vcUS_both, vcUS_last, vcUO_some, vcUL_some, vcUE_some]
    refine hsz.out.mono ?_
    rintro v hq ⟨rfl, hz⟩
    obtain rfl := hz.symm
    simp -dsimp -implicitDefEqProofs (disch := first | omega | assumption | (simp only [Option.isSome_some, Qt0]; done) | (simp only [UInt64.reduceToNat, UInt32.reduceToNat, UInt8.reduceToNat, List.length_cons, List.length_nil, List.length_append, Int.toNat_natCast] <;> omega) | fail) only [Nat.reduceLT, Nat.reduceLeDiff, Nat.reduceEqDiff, ↓reduceIte, Int.reduceLT, Int.reduceLE, Int.reduceToNat, Int.reduceEq, Int.reduceNe, Nat.reduceAdd, UInt8.reduceOfNat, UInt16.reduceOfNat, UInt32.reduceOfNat, UInt64.reduceOfNat, UInt64.reduceToNat, UInt32.reduceToNat, UInt16.reduceToNat, UInt8.reduceToNat, Int.reduceAdd, Int.reduceSub, Int.reduceMul, Nat.reduceMul, Qp0, Ql0, Qe0]
    refine hto.out.mono ?_
    rintro v hq ⟨rfl, hz⟩
    obtain rfl := hz.symm
    simp -dsimp -implicitDefEqProofs (disch := first | omega | assumption | (simp only [Option.isSome_some, Qt0]; done) | (simp only [UInt64.reduceToNat, UInt32.reduceToNat, UInt8.reduceToNat, List.length_cons, List.length_nil, List.length_append, Int.toNat_natCast] <;> omega) | fail) only [Nat.reduceLT, Nat.reduceLeDiff, Nat.reduceEqDiff, ↓reduceIte, Int.reduceLT, Int.reduceLE, Int.reduceToNat, Int.reduceEq, Int.reduceNe, Nat.reduceAdd, UInt8.reduceOfNat, UInt16.reduceOfNat, UInt32.reduceOfNat, UInt64.reduceOfNat, UInt64.reduceToNat, UInt32.reduceToNat, UInt16.reduceToNat, UInt8.reduceToNat, Int.reduceAdd, Int.reduceSub, Int.reduceMul, Nat.reduceMul, Qp0, Ql0, Qe0]
    exact ⟨_, PH.Le.refl _, hfin⟩
  have e0 := decide_eq_false q0
  by_cases q1 : K = 1
  · have e1 := decide_eq_true q1
    have hA := Lib.hid (sync_any G db d w0 H hd2 gd)
    simp -dsimp -implicitDefEqProofs (disch := first | omega | assumption | (simp only [Option.isSome_some, Qt0]; done) | (simp only [UInt64.reduceToNat, UInt32.reduceToNat, UInt8.reduceToNat, List.length_cons, List.length_nil, List.length_append, Int.toNat_natCast] <;> omega) | fail) only [Nat.reduceLT, Nat.reduceLeDiff, Nat.reduceEqDiff, ↓reduceIte, Int.reduceLT, Int.reduceLE, Int.reduceToNat, Int.reduceEq, Int.reduceNe, Nat.reduceAdd, UInt8.reduceOfNat, UInt16.reduceOfNat, UInt32.reduceOfNat, UInt64.reduceOfNat, UInt64.reduceToNat, UInt32.reduceToNat, UInt16.reduceToNat, UInt8.reduceToNat, Int.reduceAdd, Int.reduceSub, Int.reduceMul, Nat.reduceMul, Qp0, Ql0, Qe0, rd_M, rdM_some, hHo, e0, e1]
    refine PW_tr (.take 0 (.take 2 (.take 1 (.take 3 (.take 4 (.take 5 .done)))))) S (by kernel_rfl) (by decide +kernel) (by kernel_rfl) (by kernel_rfl) (by kernel_rfl) (fun c f h hq => by simp only [thenC_panic, thenK_panic, inBlk_panic, thenN_panic, vcRet_panic] at hq) (hSG hd2).sub ?_
    simp -dsimp -implicitDefEqProofs (disch := first | omega | assumption | (simp only [Option.isSome_some, Qt0]; done) | (simp only [UInt64.reduceToNat, UInt32.reduceToNat, UInt8.reduceToNat, List.length_cons, List.length_nil, List.length_append, Int.toNat_natCast] <;> omega) | fail) only [Nat.reduceLT, Nat.reduceLeDiff, Nat.reduceEqDiff, ↓reduceIte, Int.reduceLT, Int.reduceLE, Int.reduceToNat, Int.reduceEq, Int.reduceNe, Nat.reduceAdd, UInt8.reduceOfNat, UInt16.reduceOfNat, UInt32.reduceOfNat, UInt64.reduceOfNat, UInt64.reduceToNat, UInt32.reduceToNat, UInt16.reduceToNat, UInt8.reduceToNat, Int.reduceAdd, Int.reduceSub, Int.reduceMul, Nat.reduceMul, Qp0, Ql0, Qe0, vcUS_done, vcUS_take, vcUS_only, vcUS_both, vcUS_last, vcUO_some, vcUL_some, vcUE_some, rd_M, rdM_some, hSv, hSo, hHo, hHv]
    refine hA.out.mono ?_
    rintro u h1 ⟨hd3, hu⟩
    refine ⟨(hSG hd3).sub, ?_⟩
    have hB := Lib.hid (rsync_any c d w0 h1 (pc hd3) gd)
    simp -dsimp -implicitDefEqProofs (disch := first | omega | assumption | (simp only [Option.isSome_some, Qt0]; done) | (simp only [UInt64.reduceToNat, UInt32.reduceToNat, UInt8.reduceToNat, List.length_cons, List.length_nil, List.length_append, Int.toNat_natCast] <;> omega) | fail) only [Nat.reduceLT, Nat.reduceLeDiff, Nat.reduceEqDiff, ↓reduceIte, Int.reduceLT, Int.reduceLE, Int.reduceToNat, Int.reduceEq, Int.reduceNe, Nat.reduceAdd, UInt8.reduceOfNat, UInt16.reduceOfNat, UInt32.reduceOfNat, UInt64.reduceOfNat, UInt64.reduceToNat, UInt32.reduceToNat, UInt16.reduceToNat, UInt8.reduceToNat, Int.reduceAdd, Int.reduceSub, Int.reduceMul, Nat.reduceMul, Qp0, Ql0, Qe0, vcUS_done, vcUS_take, vcUS_only, vcUS_both, vcUS_last, vcUO_some, vcUL_some, vcUE_some, rd_M, rdM_some, hSv, hSo]
    refine hB.out.mono ?_
    rintro v h2 ⟨rfl, rfl⟩
    refine ⟨(hSp _ hd3).sub, ?_⟩
    have hsz := Lib.hid (size_any (d.sync).1 w0 _ c vb (pv _ hd3) (pd _ _) (gd.sync))
    have hto := Lib.hid (told_any (d.sync).1 w0 _ hg u (d.sync).2 (hu.put (pc hd3) (show (5 : Nat) ≠ 3 by decide) ⟨vK (d.sync).1, 5⟩) (Dk.sync_told d))
    have hfin := DOES.mk (vb := vb) (ob := ob) (kv := ⟨[], 0⟩) (ko := ⟨[], 0⟩) h0c h0l hGs hd3 (gd.sync)
    simp -dsimp -implicitDefEqProofs (disch := first | omega | assumption | (simp only [Option.isSome_some, Qt0]; done) | (simp only [UInt64.reduceToNat, UInt32.reduceToNat, UInt8.reduceToNat, List.length_cons, List.length_nil, List.length_append, Int.toNat_natCast] <;> omega) | fail) only [Nat.reduceLT, Nat.reduceLeDiff, Nat.reduceEqDiff, ↓reduceIte, Int.reduceLT, Int.reduceLE, Int.reduceToNat, Int.reduceEq, Int.reduceNe, Nat.reduceAdd, UInt8.reduceOfNat, UInt16.reduceOfNat, UInt32.reduceOfNat, UInt64.reduceOfNat, UInt64.reduceToNat, UInt32.reduceToNat, UInt16.reduceToNat, UInt8.reduceToNat, Int.reduceAdd, Int.reduceSub, Int.reduceMul, Nat.reduceMul, Qp0, Ql0, Qe0, vcUS_done, vcUS_take, vcUS_only, vcUS_both, vcUS_last, vcUO_some, vcUL_some, vcUE_some]
    refine hsz.out.mono ?_
    rintro v hq ⟨rfl, hz⟩
    obtain rfl := hz.symm
    simp -dsimp -implicitDefEqProofs (disch := first | omega | assumption | (simp only [Option.isSome_some, Qt0]; done) | (simp only [UInt64.reduceToNat, UInt32.reduceToNat, UInt8.reduceToNat, List.length_cons, List.length_nil, List.length_append, Int.toNat_natCast] <;> omega) | fail) only [Nat.reduceLT, Nat.reduceLeDiff, Nat.reduceEqDiff, ↓reduceIte, Int.reduceLT, Int.reduceLE, Int.reduceToNat, Int.reduceEq, Int.reduceNe, Nat.reduceAdd, UInt8.reduceOfNat, UInt16.reduceOfNat, UInt32.reduceOfNat, UInt64.reduceOfNat, UInt64.reduceToNat, UInt32.reduceToNat, UInt16.reduceToNat, UInt8.reduceToNat, Int.reduceAdd, Int.reduceSub, Int.reduceMul, Nat.reduceMul, Qp0, Ql0, Qe0]
    refine hto.out.mono ?_
    rintro v hq ⟨rfl, hz⟩
    obtain rfl := hz.symm
    simp -dsimp -implicitDefEqProofs (disch := first | omega | assumption | (simp only [Option.isSome_some, Qt0]; done) | (simp only [UInt64.reduceToNat, UInt32.reduceToNat, UInt8.reduceToNat, List.length_cons, List.length_nil, List.length_append, Int.toNat_natCast] <;> omega) | fail) only [Nat.reduceLT, Nat.reduceLeDiff, Nat.reduceEqDiff, ↓reduceIte, Int.reduceLT, Int.reduceLE, Int.reduceToNat, Int.reduceEq, Int.reduceNe, Nat.reduceAdd, UInt8.reduceOfNat, UInt16.reduceOfNat, UInt32.reduceOfNat, UInt64.reduceOfNat, UInt64.reduceToNat, UInt32.reduceToNat, UInt16.reduceToNat, UInt8.reduceToNat, Int.reduceAdd, Int.reduceSub, Int.reduceMul, Nat.reduceMul, Qp0, Ql0, Qe0]
    exact ⟨_, PH.Le.refl _, hfin⟩
  have e1 := decide_eq_false q1
  by_cases q2 : K = 2
  · have e2 := decide_eq_true q2
    have hA := Lib.hid (cut_any G db d w0 H hd2 gd N)
    simp -dsimp -implicitDefEqProofs (disch := first | omega | assumption | (simp only [Option.isSome_some, Qt0]; done) | (simp only [UInt64.reduceToNat, UInt32.reduceToNat, UInt8.reduceToNat, List.length_cons, List.length_nil, List.length_append, Int.toNat_natCast] <;> omega) | fail) only [Nat.reduceLT, Nat.reduceLeDiff, Nat.reduceEqDiff, ↓reduceIte, Int.reduceLT, Int.reduceLE, Int.reduceToNat, Int.reduceEq, Int.reduceNe, Nat.reduceAdd, UInt8.reduceOfNat, UInt16.reduceOfNat, UInt32.reduceOfNat, UInt64.reduceOfNat, UInt64.reduceToNat, UInt32.reduceToNat, UInt16.reduceToNat, UInt8.reduceToNat, Int.reduceAdd, Int.reduceSub, Int.reduceMul, Nat.reduceMul, Qp0, Ql0, Qe0, rd_M, rdM_some, hHo, e0, e1, e2]
    refine PW_tr (.take 0 (.take 1 (.take 2 (.take 4 (.take 5 (.take 6 (.take 3 (.take 7 (.take 8 (.take 9 .done)))))))))) S (by kernel_rfl) (by decide +kernel) (by kernel_rfl) (by kernel_rfl) (by kernel_rfl) (fun c f h hq => by simp only [thenC_panic, thenK_panic, inBlk_panic, thenN_panic, vcRet_panic] at hq) (hSG hd2).sub ?_
    simp -dsimp -implicitDefEqProofs (disch := first | omega | assumption | (simp only [Option.isSome_some, Qt0]; done) | (simp only [UInt64.reduceToNat, UInt32.reduceToNat, UInt8.reduceToNat, List.length_cons, List.length_nil, List.length_append, Int.toNat_natCast] <;> omega) | fail) only [Nat.reduceLT, Nat.reduceLeDiff, Nat.reduceEqDiff, ↓reduceIte, Int.reduceLT, Int.reduceLE, Int.reduceToNat, Int.reduceEq, Int.reduceNe, Nat.reduceAdd, UInt8.reduceOfNat, UInt16.reduceOfNat, UInt32.reduceOfNat, UInt64.reduceOfNat, UInt64.reduceToNat, UInt32.reduceToNat, UInt16.reduceToNat, UInt8.reduceToNat, Int.reduceAdd, Int.reduceSub, Int.reduceMul, Nat.reduceMul, Qp0, Ql0, Qe0, vcUS_done, vcUS_take, vcUS_only, vcUS_both, vcUS_last, vcUO_some, vcUL_some, vcUE_some, rd_M, rdM_some, hSv, hSo, hHo, hHv]
    refine hA.out.mono ?_
    rintro u h1 ⟨hd3, hu⟩
    refine ⟨(hSG hd3).sub, ?_⟩
    have hB := Lib.hid (rcut_any c d w0 h1 (pc hd3) gd N)
    simp -dsimp -implicitDefEqProofs (disch := first | omega | assumption | (simp only [Option.isSome_some, Qt0]; done) | (simp only [UInt64.reduceToNat, UInt32.reduceToNat, UInt8.reduceToNat, List.length_cons, List.length_nil, List.length_append, Int.toNat_natCast] <;> omega) | fail) only [Nat.reduceLT, Nat.reduceLeDiff, Nat.reduceEqDiff, ↓reduceIte, Int.reduceLT, Int.reduceLE, Int.reduceToNat, Int.reduceEq, Int.reduceNe, Nat.reduceAdd, UInt8.reduceOfNat, UInt16.reduceOfNat, UInt32.reduceOfNat, UInt64.reduceOfNat, UInt64.reduceToNat, UInt32.reduceToNat, UInt16.reduceToNat, UInt8.reduceToNat, Int.reduceAdd, Int.reduceSub, Int.reduceMul, Nat.reduceMul, Qp0, Ql0, Qe0, vcUS_done, vcUS_take, vcUS_only, vcUS_both, vcUS_last, vcUO_some, vcUL_some, vcUE_some, rd_M, rdM_some, hSv, hSo]
    refine hB.out.mono ?_
    rintro v h2 ⟨rfl, rfl⟩
    refine ⟨(hSp _ hd3).sub, ?_⟩
    have hsz := Lib.hid (size_any (d.cut N).1 w0 _ c vb (pv _ hd3) (pd _ _) (gd.cut N))
    have hto := Lib.hid (told_any (d.cut N).1 w0 _ hg u (d.cut N).2 (hu.put (pc hd3) (show (5 : Nat) ≠ 3 by decide) ⟨vK (d.cut N).1, 5⟩) (Dk.cut_told d N))
    have hfin := DOES.mk (vb := vb) (ob := ob) (kv := ⟨[], 0⟩) (ko := ⟨[], 0⟩) h0c h0l hGs hd3 (gd.cut N)
    simp -dsimp -implicitDefEqProofs (disch := first | omega | assumption | (simp only [Option.isSome_some, Qt0]; done) | (simp only [UInt64.reduceToNat, UInt32.reduceToNat, UInt8.reduceToNat, List.length_cons, List.length_nil, List.length_append, Int.toNat_natCast] <;> omega) | fail) only [Nat.reduceLT, Nat.reduceLeDiff, Nat.reduceEqDiff, ↓reduceIte, Int.reduceLT, Int.reduceLE, Int.reduceToNat, Int.reduceEq, Int.reduceNe, Nat.reduceAdd, UInt8.reduceOfNat, UInt16.reduceOfNat, UInt32.reduceOfNat, UInt64.reduceOfNat, UInt64.reduceToNat, UInt32.reduceToNat, UInt16.reduceToNat, UInt8.reduceToNat, Int.reduceAdd, Int.reduceSub, Int.reduceMul, Nat.reduceMul, Qp0, Ql0, Qe0, vcUS_done, vcUS_take, vcUS_only, vcUS_both, vcUS_last, vcUO_some, vcUL_some, vcUE_some]
    refine hsz.out.mono ?_
    rintro v hq ⟨rfl, hz⟩
    obtain rfl := hz.symm
    simp -dsimp -implicitDefEqProofs (disch := first | omega | assumption | (simp only [Option.isSome_some, Qt0]; done) | (simp only [UInt64.reduceToNat, UInt32.reduceToNat, UInt8.reduceToNat, List.length_cons, List.length_nil, List.length_append, Int.toNat_natCast] <;> omega) | fail) only [Nat.reduceLT, Nat.reduceLeDiff, Nat.reduceEqDiff, ↓reduceIte, Int.reduceLT, Int.reduceLE, Int.reduceToNat, Int.reduceEq, Int.reduceNe, Nat.reduceAdd, UInt8.reduceOfNat, UInt16.reduceOfNat, UInt32.reduceOfNat, UInt64.reduceOfNat, UInt64.reduceToNat, UInt32.reduceToNat, UInt16.reduceToNat, UInt8.reduceToNat, Int.reduceAdd, Int.reduceSub, Int.reduceMul, Nat.reduceMul, Qp0, Ql0, Qe0]
    refine hto.out.mono ?_
    rintro v hq ⟨rfl, hz⟩
    obtain rfl := hz.symm
    simp -dsimp -implicitDefEqProofs (disch := first | omega | assumption | (simp only [Option.isSome_some, Qt0]; done) | (simp only [UInt64.reduceToNat, UInt32.reduceToNat, UInt8.reduceToNat, List.length_cons, List.length_nil, List.length_append, Int.toNat_natCast] <;> omega) | fail) only [Nat.reduceLT, Nat.reduceLeDiff, Nat.reduceEqDiff, ↓reduceIte, Int.reduceLT, Int.reduceLE, Int.reduceToNat, Int.reduceEq, Int.reduceNe, Nat.reduceAdd, UInt8.reduceOfNat, UInt16.reduceOfNat, UInt32.reduceOfNat, UInt64.reduceOfNat, UInt64.reduceToNat, UInt32.reduceToNat, UInt16.reduceToNat, UInt8.reduceToNat, Int.reduceAdd, Int.reduceSub, Int.reduceMul, Nat.reduceMul, Qp0, Ql0, Qe0]
    exact ⟨_, PH.Le.refl _, hfin⟩
  have e2 := decide_eq_false q2
  by_cases q3 : K = 3
  · have e3 := decide_eq_true q3
    have hA := Lib.hid (read_any G db d w0 H hd2 gd N M)
    simp -dsimp -implicitDefEqProofs (disch := first | omega | assumption | (simp only [Option.isSome_some, Qt0]; done) | (simp only [UInt64.reduceToNat, UInt32.reduceToNat, UInt8.reduceToNat, List.length_cons, List.length_nil, List.length_append, Int.toNat_natCast] <;> omega) | fail) only [Nat.reduceLT, Nat.reduceLeDiff, Nat.reduceEqDiff, ↓reduceIte, Int.reduceLT, Int.reduceLE, Int.reduceToNat, Int.reduceEq, Int.reduceNe, Nat.reduceAdd, UInt8.reduceOfNat, UInt16.reduceOfNat, UInt32.reduceOfNat, UInt64.reduceOfNat, UInt64.reduceToNat, UInt32.reduceToNat, UInt16.reduceToNat, UInt8.reduceToNat, Int.reduceAdd, Int.reduceSub, Int.reduceMul, Nat.reduceMul, Qp0, Ql0, Qe0, rd_M, rdM_some, hHo, e0, e1, e2, e3]
    refine hA.out.mono ?_
    rintro v h1 ⟨u, rfl, hd3, hu⟩
    have h1o := hd3.same _ _ hGo
    have h1v := hd3.same _ _ hGv
    have hB := Lib.hid (rread_any c d w0 h1 (pc hd3) gd N M)
    have hsz := Lib.hid (size_any d w0 h1 c vb h1v (pc hd3) gd)
    have hto := Lib.hid (told_any d w0 h1 hg u (d.read N M).2 hu (Dk.read_told d N M))
    have hfin := DOES.mk (vb := vb) (ob := ob) (kv := ⟨[], 0⟩) (ko := ⟨[], 0⟩) h0c h0l hGs hd3 gd
    rw [PH.new_same (pc hd3)] at hfin
    obtain ⟨t, ht⟩ : ∃ t, (d.read N M).1 = t := ⟨_, rfl⟩
    generalize (d.read N M).1 = t at *
    have e9 : decide (t = t) = true := by simp
    simp -dsimp -implicitDefEqProofs (disch := first | omega | assumption | (simp only [Option.isSome_some, Qt0]; done) | (simp only [UInt64.reduceToNat, UInt32.reduceToNat, UInt8.reduceToNat, List.length_cons, List.length_nil, List.length_append, Int.toNat_natCast] <;> omega) | fail) only [Nat.reduceLT, Nat.reduceLeDiff, Nat.reduceEqDiff, ↓reduceIte, Int.reduceLT, Int.reduceLE, Int.reduceToNat, Int.reduceEq, Int.reduceNe, Nat.reduceAdd, UInt8.reduceOfNat, UInt16.reduceOfNat, UInt32.reduceOfNat, UInt64.reduceOfNat, UInt64.reduceToNat, UInt32.reduceToNat, UInt16.reduceToNat, UInt8.reduceToNat, Int.reduceAdd, Int.reduceSub, Int.reduceMul, Nat.reduceMul, Qp0, Ql0, Qe0, rd_M, rdM_some, h1o, h1v]
    refine hB.out.mono ?_
    rintro v hq ⟨rfl, hz⟩
    obtain rfl := hz.symm
    simp -dsimp -implicitDefEqProofs (disch := first | omega | assumption | (simp only [Option.isSome_some, Qt0]; done) | (simp only [UInt64.reduceToNat, UInt32.reduceToNat, UInt8.reduceToNat, List.length_cons, List.length_nil, List.length_append, Int.toNat_natCast] <;> omega) | fail) only [Nat.reduceLT, Nat.reduceLeDiff, Nat.reduceEqDiff, ↓reduceIte, Int.reduceLT, Int.reduceLE, Int.reduceToNat, Int.reduceEq, Int.reduceNe, Nat.reduceAdd, UInt8.reduceOfNat, UInt16.reduceOfNat, UInt32.reduceOfNat, UInt64.reduceOfNat, UInt64.reduceToNat, UInt32.reduceToNat, UInt16.reduceToNat, UInt8.reduceToNat, Int.reduceAdd, Int.reduceSub, Int.reduceMul, Nat.reduceMul, Qp0, Ql0, Qe0, e9]
    refine hsz.out.mono ?_
    rintro v hq ⟨rfl, hz⟩
    obtain rfl := hz.symm
    simp -dsimp -implicitDefEqProofs (disch := first | omega | assumption | (simp only [Option.isSome_some, Qt0]; done) | (simp only [UInt64.reduceToNat, UInt32.reduceToNat, UInt8.reduceToNat, List.length_cons, List.length_nil, List.length_append, Int.toNat_natCast] <;> omega) | fail) only [Nat.reduceLT, Nat.reduceLeDiff, Nat.reduceEqDiff, ↓reduceIte, Int.reduceLT, Int.reduceLE, Int.reduceToNat, Int.reduceEq, Int.reduceNe, Nat.reduceAdd, UInt8.reduceOfNat, UInt16.reduceOfNat, UInt32.reduceOfNat, UInt64.reduceOfNat, UInt64.reduceToNat, UInt32.reduceToNat, UInt16.reduceToNat, UInt8.reduceToNat, Int.reduceAdd, Int.reduceSub, Int.reduceMul, Nat.reduceMul, Qp0, Ql0, Qe0]
    refine hto.out.mono ?_
    rintro v hq ⟨rfl, hz⟩
    obtain rfl := hz.symm
    simp -dsimp -implicitDefEqProofs (disch := first | omega | assumption | (simp only [Option.isSome_some, Qt0]; done) | (simp only [UInt64.reduceToNat, UInt32.reduceToNat, UInt8.reduceToNat, List.length_cons, List.length_nil, List.length_append, Int.toNat_natCast] <;> omega) | fail) only [Nat.reduceLT, Nat.reduceLeDiff, Nat.reduceEqDiff, ↓reduceIte, Int.reduceLT, Int.reduceLE, Int.reduceToNat, Int.reduceEq, Int.reduceNe, Nat.reduceAdd, UInt8.reduceOfNat, UInt16.reduceOfNat, UInt32.reduceOfNat, UInt64.reduceOfNat, UInt64.reduceToNat, UInt32.reduceToNat, UInt16.reduceToNat, UInt8.reduceToNat, Int.reduceAdd, Int.reduceSub, Int.reduceMul, Nat.reduceMul, Qp0, Ql0, Qe0]
    exact ⟨_, PH.Le.refl _, hfin⟩
  have e3 := decide_eq_false q3
  by_cases q4 : K = 4
  · have e4 := decide_eq_true q4
    by_cases hb : N < 0 ∨ 1048576 < N
    · have hA := Lib.hid (room_bad G db d w0 H hd2 N hb)
      simp -dsimp -implicitDefEqProofs (disch := first | omega | assumption | (simp only [Option.isSome_some, Qt0]; done) | (simp only [UInt64.reduceToNat, UInt32.reduceToNat, UInt8.reduceToNat, List.length_cons, List.length_nil, List.length_append, Int.toNat_natCast] <;> omega) | fail) only [Nat.reduceLT, Nat.reduceLeDiff, Nat.reduceEqDiff, ↓reduceIte, Int.reduceLT, Int.reduceLE, Int.reduceToNat, Int.reduceEq, Int.reduceNe, Nat.reduceAdd, UInt8.reduceOfNat, UInt16.reduceOfNat, UInt32.reduceOfNat, UInt64.reduceOfNat, UInt64.reduceToNat, UInt32.reduceToNat, UInt16.reduceToNat, UInt8.reduceToNat, Int.reduceAdd, Int.reduceSub, Int.reduceMul, Nat.reduceMul, Qp0, Ql0, Qe0, rd_M, rdM_some, hHo, e0, e1, e2, e3, e4]
      refine hA.out.mono ?_
      rintro u h1 ⟨hu, hd3⟩
      have h1o := hd3.same _ _ hGo
      have h1v := hd3.same _ _ hGv
      have hsz := Lib.hid (size_any d w0 h1 c vb h1v (pc hd3) gd)
      have hto := Lib.hid (told_any d w0 h1 hg u (some (1, d.size)) hu (fun k a e => by injection e with e; injection e with e1 e2; subst e1; subst e2; exact ⟨by decide, rfl⟩))
      have hfin := DOES.mk (vb := vb) (ob := ob) (kv := ⟨[], 0⟩) (ko := ⟨[], 0⟩) h0c h0l hGs hd3 gd
      rw [PH.new_same (pc hd3)] at hfin
      by_cases hb1 : N < 0
      · have d1 := decide_eq_true hb1
        simp -dsimp -implicitDefEqProofs (disch := first | omega | assumption | (simp only [Option.isSome_some, Qt0]; done) | (simp only [UInt64.reduceToNat, UInt32.reduceToNat, UInt8.reduceToNat, List.length_cons, List.length_nil, List.length_append, Int.toNat_natCast] <;> omega) | fail) only [Nat.reduceLT, Nat.reduceLeDiff, Nat.reduceEqDiff, ↓reduceIte, Int.reduceLT, Int.reduceLE, Int.reduceToNat, Int.reduceEq, Int.reduceNe, Nat.reduceAdd, UInt8.reduceOfNat, UInt16.reduceOfNat, UInt32.reduceOfNat, UInt64.reduceOfNat, UInt64.reduceToNat, UInt32.reduceToNat, UInt16.reduceToNat, UInt8.reduceToNat, Int.reduceAdd, Int.reduceSub, Int.reduceMul, Nat.reduceMul, Qp0, Ql0, Qe0, rd_M, rdM_some, h1o, h1v, d1]
        refine hsz.out.mono ?_
        rintro v hq ⟨rfl, hz⟩
        obtain rfl := hz.symm
        simp -dsimp -implicitDefEqProofs (disch := first | omega | assumption | (simp only [Option.isSome_some, Qt0]; done) | (simp only [UInt64.reduceToNat, UInt32.reduceToNat, UInt8.reduceToNat, List.length_cons, List.length_nil, List.length_append, Int.toNat_natCast] <;> omega) | fail) only [Nat.reduceLT, Nat.reduceLeDiff, Nat.reduceEqDiff, ↓reduceIte, Int.reduceLT, Int.reduceLE, Int.reduceToNat, Int.reduceEq, Int.reduceNe, Nat.reduceAdd, UInt8.reduceOfNat, UInt16.reduceOfNat, UInt32.reduceOfNat, UInt64.reduceOfNat, UInt64.reduceToNat, UInt32.reduceToNat, UInt16.reduceToNat, UInt8.reduceToNat, Int.reduceAdd, Int.reduceSub, Int.reduceMul, Nat.reduceMul, Qp0, Ql0, Qe0]
        refine hto.out.mono ?_
        rintro v hq ⟨rfl, hz⟩
        obtain rfl := hz.symm
        simp -dsimp -implicitDefEqProofs (disch := first | omega | assumption | (simp only [Option.isSome_some, Qt0]; done) | (simp only [UInt64.reduceToNat, UInt32.reduceToNat, UInt8.reduceToNat, List.length_cons, List.length_nil, List.length_append, Int.toNat_natCast] <;> omega) | fail) only [Nat.reduceLT, Nat.reduceLeDiff, Nat.reduceEqDiff, ↓reduceIte, Int.reduceLT, Int.reduceLE, Int.reduceToNat, Int.reduceEq, Int.reduceNe, Nat.reduceAdd, UInt8.reduceOfNat, UInt16.reduceOfNat, UInt32.reduceOfNat, UInt64.reduceOfNat, UInt64.reduceToNat, UInt32.reduceToNat, UInt16.reduceToNat, UInt8.reduceToNat, Int.reduceAdd, Int.reduceSub, Int.reduceMul, Nat.reduceMul, Qp0, Ql0, Qe0]
        exact ⟨_, PH.Le.refl _, hfin⟩
      · have d1 := decide_eq_false hb1
        have d2 : decide (1048576 < N) = true := decide_eq_true (by omega)
        simp -dsimp -implicitDefEqProofs (disch := first | omega | assumption | (simp only [Option.isSome_some, Qt0]; done) | (simp only [UInt64.reduceToNat, UInt32.reduceToNat, UInt8.reduceToNat, List.length_cons, List.length_nil, List.length_append, Int.toNat_natCast] <;> omega) | fail) only [Nat.reduceLT, Nat.reduceLeDiff, Nat.reduceEqDiff, ↓reduceIte, Int.reduceLT, Int.reduceLE, Int.reduceToNat, Int.reduceEq, Int.reduceNe, Nat.reduceAdd, UInt8.reduceOfNat, UInt16.reduceOfNat, UInt32.reduceOfNat, UInt64.reduceOfNat, UInt64.reduceToNat, UInt32.reduceToNat, UInt16.reduceToNat, UInt8.reduceToNat, Int.reduceAdd, Int.reduceSub, Int.reduceMul, Nat.reduceMul, Qp0, Ql0, Qe0, rd_M, rdM_some, h1o, h1v, d1, gt_iff_lt, d2]
        refine hsz.out.mono ?_
        rintro v hq ⟨rfl, hz⟩
        obtain rfl := hz.symm
        simp -dsimp -implicitDefEqProofs (disch := first | omega | assumption | (simp only [Option.isSome_some, Qt0]; done) | (simp only [UInt64.reduceToNat, UInt32.reduceToNat, UInt8.reduceToNat, List.length_cons, List.length_nil, List.length_append, Int.toNat_natCast] <;> omega) | fail) only [Nat.reduceLT, Nat.reduceLeDiff, Nat.reduceEqDiff, ↓reduceIte, Int.reduceLT, Int.reduceLE, Int.reduceToNat, Int.reduceEq, Int.reduceNe, Nat.reduceAdd, UInt8.reduceOfNat, UInt16.reduceOfNat, UInt32.reduceOfNat, UInt64.reduceOfNat, UInt64.reduceToNat, UInt32.reduceToNat, UInt16.reduceToNat, UInt8.reduceToNat, Int.reduceAdd, Int.reduceSub, Int.reduceMul, Nat.reduceMul, Qp0, Ql0, Qe0]
        refine hto.out.mono ?_
        rintro v hq ⟨rfl, hz⟩
        obtain rfl := hz.symm
        simp -dsimp -implicitDefEqProofs (disch := first | omega | assumption | (simp only [Option.isSome_some, Qt0]; done) | (simp only [UInt64.reduceToNat, UInt32.reduceToNat, UInt8.reduceToNat, List.length_cons, List.length_nil, List.length_append, Int.toNat_natCast] <;> omega) | fail) only [Nat.reduceLT, Nat.reduceLeDiff, Nat.reduceEqDiff, ↓reduceIte, Int.reduceLT, Int.reduceLE, Int.reduceToNat, Int.reduceEq, Int.reduceNe, Nat.reduceAdd, UInt8.reduceOfNat, UInt16.reduceOfNat, UInt32.reduceOfNat, UInt64.reduceOfNat, UInt64.reduceToNat, UInt32.reduceToNat, UInt16.reduceToNat, UInt8.reduceToNat, Int.reduceAdd, Int.reduceSub, Int.reduceMul, Nat.reduceMul, Qp0, Ql0, Qe0]
        exact ⟨_, PH.Le.refl _, hfin⟩
    · have d1 : decide (N < 0) = false := decide_eq_false (by omega)
      have d2 : decide (1048576 < N) = false := decide_eq_false (by omega)
      have hA := Lib.hid (room_any G db d w0 H hd2 N (by omega))
      simp -dsimp -implicitDefEqProofs (disch := first | omega | assumption | (simp only [Option.isSome_some, Qt0]; done) | (simp only [UInt64.reduceToNat, UInt32.reduceToNat, UInt8.reduceToNat, List.length_cons, List.length_nil, List.length_append, Int.toNat_natCast] <;> omega) | fail) only [Nat.reduceLT, Nat.reduceLeDiff, Nat.reduceEqDiff, ↓reduceIte, Int.reduceLT, Int.reduceLE, Int.reduceToNat, Int.reduceEq, Int.reduceNe, Nat.reduceAdd, UInt8.reduceOfNat, UInt16.reduceOfNat, UInt32.reduceOfNat, UInt64.reduceOfNat, UInt64.reduceToNat, UInt32.reduceToNat, UInt16.reduceToNat, UInt8.reduceToNat, Int.reduceAdd, Int.reduceSub, Int.reduceMul, Nat.reduceMul, Qp0, Ql0, Qe0, rd_M, rdM_some, hHo, e0, e1, e2, e3, e4]
      refine hA.out.mono ?_
      rintro u h1 ⟨rfl, hd3⟩
      have h1o := hd3.same _ _ hGo
      have h1v := hd3.same _ _ hGv
      have h1c := pc hd3
      have hfin := DOES.mk (vb := vb) (ob := ob) (kv := ⟨[], 0⟩) (ko := ⟨[], 0⟩) h0c h0l hGs hd3 (d' := { d with room := N }) ⟨gd.safe0, gd.safe1, gd.len, by simp only; omega, by simp only; omega, gd.fuse⟩
      unfold vK rK at h1c hfin
      simp -dsimp -implicitDefEqProofs (disch := first | omega | assumption | (simp only [Option.isSome_some, Qt0]; done) | (simp only [UInt64.reduceToNat, UInt32.reduceToNat, UInt8.reduceToNat, List.length_cons, List.length_nil, List.length_append, Int.toNat_natCast] <;> omega) | fail) only [Nat.reduceLT, Nat.reduceLeDiff, Nat.reduceEqDiff, ↓reduceIte, Int.reduceLT, Int.reduceLE, Int.reduceToNat, Int.reduceEq, Int.reduceNe, Nat.reduceAdd, UInt8.reduceOfNat, UInt16.reduceOfNat, UInt32.reduceOfNat, UInt64.reduceOfNat, UInt64.reduceToNat, UInt32.reduceToNat, UInt16.reduceToNat, UInt8.reduceToNat, Int.reduceAdd, Int.reduceSub, Int.reduceMul, Nat.reduceMul, Qp0, Ql0, Qe0, rd_M, rdM_some, h1o, h1v, h1c, d1, gt_iff_lt, d2, List.set_cons_zero, List.set_cons_succ]
      exact ⟨_, PH.Le.refl _, hfin⟩
  have e4 := decide_eq_false q4
  by_cases q5 : K = 5
  · have e5 := decide_eq_true q5
    have hA := Lib.hid (fuse_any G db d w0 H hd2 N)
    simp -dsimp -implicitDefEqProofs (disch := first | omega | assumption | (simp only [Option.isSome_some, Qt0]; done) | (simp only [UInt64.reduceToNat, UInt32.reduceToNat, UInt8.reduceToNat, List.length_cons, List.length_nil, List.length_append, Int.toNat_natCast] <;> omega) | fail) only [Nat.reduceLT, Nat.reduceLeDiff, Nat.reduceEqDiff, ↓reduceIte, Int.reduceLT, Int.reduceLE, Int.reduceToNat, Int.reduceEq, Int.reduceNe, Nat.reduceAdd, UInt8.reduceOfNat, UInt16.reduceOfNat, UInt32.reduceOfNat, UInt64.reduceOfNat, UInt64.reduceToNat, UInt32.reduceToNat, UInt16.reduceToNat, UInt8.reduceToNat, Int.reduceAdd, Int.reduceSub, Int.reduceMul, Nat.reduceMul, Qp0, Ql0, Qe0, rd_M, rdM_some, hHo, e0, e1, e2, e3, e4, e5]
    refine hA.out.mono ?_
    intro u h1 hd3
    have h1o := hd3.same _ _ hGo
    have h1v := hd3.same _ _ hGv
    have h1c := pc hd3
    obtain ⟨F, hF⟩ : ∃ F, F = (if -1 > N then -1 else N) := ⟨_, rfl⟩
    rw [← hF] at hd3
    have hfin := DOES.mk (vb := vb) (ob := ob) (kv := ⟨[], 0⟩) (ko := ⟨[], 0⟩) h0c h0l hGs hd3 (d' := { d with fuse := F }) ⟨gd.safe0, gd.safe1, gd.len, gd.room0, gd.room1, by simp only; rw [hF]; split <;> omega⟩
    unfold vK rK at h1c hfin
    simp -dsimp -implicitDefEqProofs (disch := first | omega | assumption | (simp only [Option.isSome_some, Qt0]; done) | (simp only [UInt64.reduceToNat, UInt32.reduceToNat, UInt8.reduceToNat, List.length_cons, List.length_nil, List.length_append, Int.toNat_natCast] <;> omega) | fail) only [Nat.reduceLT, Nat.reduceLeDiff, Nat.reduceEqDiff, ↓reduceIte, Int.reduceLT, Int.reduceLE, Int.reduceToNat, Int.reduceEq, Int.reduceNe, Nat.reduceAdd, UInt8.reduceOfNat, UInt16.reduceOfNat, UInt32.reduceOfNat, UInt64.reduceOfNat, UInt64.reduceToNat, UInt32.reduceToNat, UInt16.reduceToNat, UInt8.reduceToNat, Int.reduceAdd, Int.reduceSub, Int.reduceMul, Nat.reduceMul, Qp0, Ql0, Qe0, rd_M, rdM_some, h1o, h1v, h1c, hF.symm, List.set_cons_zero, List.set_cons_succ]
    exact ⟨_, PH.Le.refl _, hfin⟩
  have e5 := decide_eq_false q5
  by_cases q6 : K = 6
  · have e6 := decide_eq_true q6
    have hA := Lib.hid (crash_any G db d w0 H hd2 gd N s (by omega))
    simp -dsimp -implicitDefEqProofs (disch := first | omega | assumption | (simp only [Option.isSome_some, Qt0]; done) | (simp only [UInt64.reduceToNat, UInt32.reduceToNat, UInt8.reduceToNat, List.length_cons, List.length_nil, List.length_append, Int.toNat_natCast] <;> omega) | fail) only [Nat.reduceLT, Nat.reduceLeDiff, Nat.reduceEqDiff, ↓reduceIte, Int.reduceLT, Int.reduceLE, Int.reduceToNat, Int.reduceEq, Int.reduceNe, Nat.reduceAdd, UInt8.reduceOfNat, UInt16.reduceOfNat, UInt32.reduceOfNat, UInt64.reduceOfNat, UInt64.reduceToNat, UInt32.reduceToNat, UInt16.reduceToNat, UInt8.reduceToNat, Int.reduceAdd, Int.reduceSub, Int.reduceMul, Nat.reduceMul, Qp0, Ql0, Qe0, rd_M, rdM_some, hHo, e0, e1, e2, e3, e4, e5, e6]
    refine hA.out.mono ?_
    intro u h1 hd3
    have h1o := hd3.same _ _ hGo
    have h1v := hd3.same _ _ hGv
    have hB := Lib.hid (rcrash_any c d w0 h1 (pc hd3) gd N s (by omega))
    have hfin := DOES.mk (vb := vb) (ob := ob) (kv := ⟨[], 0⟩) (ko := ⟨[], 0⟩) h0c h0l hGs hd3 (gd.crash N s)
    simp -dsimp -implicitDefEqProofs (disch := first | omega | assumption | (simp only [Option.isSome_some, Qt0]; done) | (simp only [UInt64.reduceToNat, UInt32.reduceToNat, UInt8.reduceToNat, List.length_cons, List.length_nil, List.length_append, Int.toNat_natCast] <;> omega) | fail) only [Nat.reduceLT, Nat.reduceLeDiff, Nat.reduceEqDiff, ↓reduceIte, Int.reduceLT, Int.reduceLE, Int.reduceToNat, Int.reduceEq, Int.reduceNe, Nat.reduceAdd, UInt8.reduceOfNat, UInt16.reduceOfNat, UInt32.reduceOfNat, UInt64.reduceOfNat, UInt64.reduceToNat, UInt32.reduceToNat, UInt16.reduceToNat, UInt8.reduceToNat, Int.reduceAdd, Int.reduceSub, Int.reduceMul, Nat.reduceMul, Qp0, Ql0, Qe0, rd_M, rdM_some, h1o, h1v]
    refine hB.out.mono ?_
    intro u2 h2 hl2
    simp -dsimp -implicitDefEqProofs (disch := first | omega | assumption | (simp only [Option.isSome_some, Qt0]; done) | (simp only [UInt64.reduceToNat, UInt32.reduceToNat, UInt8.reduceToNat, List.length_cons, List.length_nil, List.length_append, Int.toNat_natCast] <;> omega) | fail) only [Nat.reduceLT, Nat.reduceLeDiff, Nat.reduceEqDiff, ↓reduceIte, Int.reduceLT, Int.reduceLE, Int.reduceToNat, Int.reduceEq, Int.reduceNe, Nat.reduceAdd, UInt8.reduceOfNat, UInt16.reduceOfNat, UInt32.reduceOfNat, UInt64.reduceOfNat, UInt64.reduceToNat, UInt32.reduceToNat, UInt16.reduceToNat, UInt8.reduceToNat, Int.reduceAdd, Int.reduceSub, Int.reduceMul, Nat.reduceMul, Qp0, Ql0, Qe0]
    exact ⟨_, hl2, hfin⟩
  have e6 := decide_eq_false q6
  by_cases q7 : K = 7
  · have e7 := decide_eq_true q7
    obtain ⟨x, hx⟩ : ∃ x, UInt8.ofInt M = x := ⟨_, rfl⟩
    have hA := Lib.hid (rot_any G db d w0 H hd2 gd N x)
    simp -dsimp -implicitDefEqProofs (disch := first | omega | assumption | (simp only [Option.isSome_some, Qt0]; done) | (simp only [UInt64.reduceToNat, UInt32.reduceToNat, UInt8.reduceToNat, List.length_cons, List.length_nil, List.length_append, Int.toNat_natCast] <;> omega) | fail) only [Nat.reduceLT, Nat.reduceLeDiff, Nat.reduceEqDiff, ↓reduceIte, Int.reduceLT, Int.reduceLE, Int.reduceToNat, Int.reduceEq, Int.reduceNe, Nat.reduceAdd, UInt8.reduceOfNat, UInt16.reduceOfNat, UInt32.reduceOfNat, UInt64.reduceOfNat, UInt64.reduceToNat, UInt32.reduceToNat, UInt16.reduceToNat, UInt8.reduceToNat, Int.reduceAdd, Int.reduceSub, Int.reduceMul, Nat.reduceMul, Qp0, Ql0, Qe0, rd_M, rdM_some, hHo, e0, e1, e2, e3, e4, e5, e6, e7]
    refine PW_tr (.take 0 (.take 1 (.take 2 (.take 3 (.take 4 (.take 5 (.take 7 (.take 8 (.take 9 (.take 10 (.take 11 (.take 12 (.take 6 (.take 13 (.take 14 (.take 15 .done)))))))))))))))) S (by kernel_rfl) (by decide +kernel) (by kernel_rfl) (by kernel_rfl) (by kernel_rfl) (fun c f h hq => by simp only [thenC_panic, thenK_panic, inBlk_panic, thenN_panic, vcRet_panic] at hq) (hSG hd2).sub ?_
    simp -dsimp -implicitDefEqProofs (disch := first | omega | assumption | (simp only [Option.isSome_some, Qt0]; done) | (simp only [UInt64.reduceToNat, UInt32.reduceToNat, UInt8.reduceToNat, List.length_cons, List.length_nil, List.length_append, Int.toNat_natCast] <;> omega) | fail) only [Nat.reduceLT, Nat.reduceLeDiff, Nat.reduceEqDiff, ↓reduceIte, Int.reduceLT, Int.reduceLE, Int.reduceToNat, Int.reduceEq, Int.reduceNe, Nat.reduceAdd, UInt8.reduceOfNat, UInt16.reduceOfNat, UInt32.reduceOfNat, UInt64.reduceOfNat, UInt64.reduceToNat, UInt32.reduceToNat, UInt16.reduceToNat, UInt8.reduceToNat, Int.reduceAdd, Int.reduceSub, Int.reduceMul, Nat.reduceMul, Qp0, Ql0, Qe0, vcUS_done, vcUS_take, vcUS_only, vcUS_both, vcUS_last, vcUO_some, vcUL_some, vcUE_some, rd_M, rdM_some, hSv, hSo, hHo, hHv, hx]
    refine hA.out.mono ?_
    rintro u h1 ⟨rfl, hd3⟩
    refine ⟨(hSG hd3).sub, ?_⟩
    have hB := Lib.hid (rrot_any c d w0 h1 (pc hd3) gd N x)
    have hfin := DOES.mk (vb := vb) (ob := ob) (kv := ⟨[], 0⟩) (ko := ⟨[], 0⟩) h0c h0l hGs hd3 (gd.rot N x)
    generalize (d.rot N x).2 = B at *
    simp -dsimp -implicitDefEqProofs (disch := first | omega | assumption | (simp only [Option.isSome_some, Qt0]; done) | (simp only [UInt64.reduceToNat, UInt32.reduceToNat, UInt8.reduceToNat, List.length_cons, List.length_nil, List.length_append, Int.toNat_natCast] <;> omega) | fail) only [Nat.reduceLT, Nat.reduceLeDiff, Nat.reduceEqDiff, ↓reduceIte, Int.reduceLT, Int.reduceLE, Int.reduceToNat, Int.reduceEq, Int.reduceNe, Nat.reduceAdd, UInt8.reduceOfNat, UInt16.reduceOfNat, UInt32.reduceOfNat, UInt64.reduceOfNat, UInt64.reduceToNat, UInt32.reduceToNat, UInt16.reduceToNat, UInt8.reduceToNat, Int.reduceAdd, Int.reduceSub, Int.reduceMul, Nat.reduceMul, Qp0, Ql0, Qe0, vcUS_done, vcUS_take, vcUS_only, vcUS_both, vcUS_last, vcUO_some, vcUL_some, vcUE_some, rd_M, rdM_some, hSv, hSo]
    refine hB.out.mono ?_
    rintro u2 h2 ⟨rfl, hl2⟩
    refine ⟨((hSp _ hd3).trans hl2).sub, ?_⟩
    have e9 : (B == B) = true := by simp
    have e10 : decide (B = B) = true := by simp
    simp -dsimp -implicitDefEqProofs (disch := first | omega | assumption | (simp only [Option.isSome_some, Qt0]; done) | (simp only [UInt64.reduceToNat, UInt32.reduceToNat, UInt8.reduceToNat, List.length_cons, List.length_nil, List.length_append, Int.toNat_natCast] <;> omega) | fail) only [Nat.reduceLT, Nat.reduceLeDiff, Nat.reduceEqDiff, ↓reduceIte, Int.reduceLT, Int.reduceLE, Int.reduceToNat, Int.reduceEq, Int.reduceNe, Nat.reduceAdd, UInt8.reduceOfNat, UInt16.reduceOfNat, UInt32.reduceOfNat, UInt64.reduceOfNat, UInt64.reduceToNat, UInt32.reduceToNat, UInt16.reduceToNat, UInt8.reduceToNat, Int.reduceAdd, Int.reduceSub, Int.reduceMul, Nat.reduceMul, Qp0, Ql0, Qe0, vcUS_done, vcUS_take, vcUS_only, vcUS_both, vcUS_last, vcUO_some, vcUL_some, vcUE_some, e9, e10]
    exact ⟨_, hl2, hfin⟩
  have e7 := decide_eq_false q7
  simp -dsimp -implicitDefEqProofs (disch := first | omega | assumption | (simp only [Option.isSome_some, Qt0]; done) | (simp only [UInt64.reduceToNat, UInt32.reduceToNat, UInt8.reduceToNat, List.length_cons, List.length_nil, List.length_append, Int.toNat_natCast] <;> omega) | fail) only [Nat.reduceLT, Nat.reduceLeDiff, Nat.reduceEqDiff, ↓reduceIte, Int.reduceLT, Int.reduceLE, Int.reduceToNat, Int.reduceEq, Int.reduceNe, Nat.reduceAdd, UInt8.reduceOfNat, UInt16.reduceOfNat, UInt32.reduceOfNat, UInt64.reduceOfNat, UInt64.reduceToNat, UInt32.reduceToNat, UInt16.reduceToNat, UInt8.reduceToNat, Int.reduceAdd, Int.reduceSub, Int.reduceMul, Nat.reduceMul, Qp0, Ql0, Qe0, rd_M, rdM_some, hHo, e0, e1, e2, e3, e4, e5, e6, e7]
  have hfin := DOES.mk (vb := vb) (ob := ob) (kv := ⟨[], 0⟩) (ko := ⟨[], 0⟩) h0c h0l hGs hd2 gd
  rw [PH.new_same hHc] at hfin
  exact ⟨_, PH.Le.refl _, hfin⟩
end
end Go.Proofs.YtcjojkhieocehaaDoor
