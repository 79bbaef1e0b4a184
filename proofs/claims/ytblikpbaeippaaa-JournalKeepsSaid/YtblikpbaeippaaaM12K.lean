/- Parts Jka, joined. No condition. -/
import Derived.Test.YtblikpbaeippaaaM11K
namespace Go.Proofs.Ytblikpbaeippaaa
set_option linter.unusedVariables false
set_option linter.unusedSimpArgs false
open Go.RowKit Px Wr
structure S0 (w0 : World) (h0 q : PH) (F a b : Nat) (da db : Dk) (xb yb : Nat) (hB : PH) (ps : List Pt) (Ax : Option Addr) (ca : Nat) (Bx : Option Addr) (ca2 : Nat) (cx wx : Bool) (qs : List Pt) (Ay : Option Addr) (cb : Nat) (By : Option Addr) (cb2 : Nat) (cy wy : Bool) : Prop where
  hD : D2 hB q a da b db
  le : PH.Le h0 hB
  F : F ≤ xb
  x0 : h0.top ≤ xb
  y0 : h0.top ≤ yb
  hX : hB.m xb = some ⟨[.slice Ax ps.length ca, .slice Bx ps.length ca2, .int .i64 (flatP ps).length, .bool cx, .bool wx], 5⟩
  hY : hB.m yb = some ⟨[.slice Ay qs.length cb, .slice By qs.length cb2, .int .i64 (flatP qs).length, .bool cy, .bool wy], 5⟩
  kx : ScanK da.l ps cx
  ky : ScanK db.l qs cy
  hwx : wh cx ps = wx
  hwy : wh cy qs = wy
  rx1 : Rv w0 hB Ax (ptsL ps)
  rx2 : Rv w0 hB Bx (ints (endsP ps))
  ry1 : Rv w0 hB Ay (ptsL qs)
  ry2 : Rv w0 hB By (ints (endsP qs))
  nx : ps.length ≤ ca ∧ ps.length ≤ ca2
  ny : qs.length ≤ cb ∧ qs.length ≤ cb2
  bx : ps ≠ [] → ∀ a, Bx = some a → a.block ≠ xb
  ax : ps ≠ [] → ∀ a, Ax = some a → a.block ≠ xb
  bya : ∀ a, Ay = some a → a.block ≠ xb
  byb : ∀ a, By = some a → a.block ≠ xb
  xy : xb ≠ yb
  ut : w0.heap.size ≤ hB.top
theorem Px.Rv.below {w0 : World} {h : PH} {A : Option Addr} {xs : List Value} (r : Rv w0 h A xs) (hx : 0 < xs.length) {T : Nat} (h1 : h.top ≤ T) (h2 : w0.heap.size ≤ T) : ∀ a, A = some a → a.block < T := fun a e => by
  subst e
  obtain ⟨b, o, e, hb⟩ := r 0 _ (List.getElem?_eq_getElem hx)
  injection e with e
  subst e
  rcases hb with ⟨k, hk, _⟩ | ⟨hb, _⟩
  · have := h.lt _ _ hk; simp only; omega
  · simp only; omega
def OpenW (h0 h h' : PH) (n o : Nat) (v : Value) (dn do_ : Dk) (e : Option Int) (g : Nat) (l : List (List UInt8)) : Prop := match e with
  | some k => ∃ e3, v = .tuple #[.pointer none, .slice none 0 0, e3] ∧ EC h' e3 (some k) ∧ D2 h0 h' n dn o do_
  | none => ∃ j V h1, v = .tuple #[.pointer (some ⟨j, 0, none⟩), V, .nilIface] ∧ PH.Le h0 h1 ∧ JS h1 h' j n o dn do_ g false ∧ Own h1 1 V l.length (l.map str) ∧ ∀ x, V.ownBlock = some x → h.top ≤ x
theorem Px.Rv.left {w0 : World} {h : PH} {A : Option Addr} {xs ys : List Value} (r : Rv w0 h A (xs ++ ys)) : Rv w0 h A xs := fun j u e => r j u (by rw [List.getElem?_append_left (List.getElem?_eq_some_iff.1 e).1]; exact e)
theorem gen_ok {ps : List Pt} (ho : ordB ps = true) (hk : AllOk ps) : 1 ≤ genP ps ∧ genP ps ≤ 1099511627776 := by
  cases ps with
  | nil => cases ho
  | cons x l =>
    have hx := hk.cons.1
    have h1 : x.k = 1 := by
      unfold ordB at ho
      by_cases h : x.k = 1
      · exact h
      · simp [h] at ho
    have h2 : genP (x :: l) = x.g := by simp [genP, h1]
    rw [h2]
    exact ⟨hx.g0, hx.g1⟩
structure TK (w0 : World) (h0 h : PH) (R : Value → PH → Prop) (n o : Nat) (dn do_ : Dk) (ps : List Pt) (xb jb : Nat) (hB : PH) (A : Option Addr) (c : Nat) (B : Option Addr) (c2 : Nat) (cx : Bool) : Prop where
  le : PH.Le h0 hB
  F : h.top ≤ hB.top
  j0 : h0.top ≤ jb
  x0 : h0.top ≤ xb
  hX : hB.m xb = some ⟨[.slice A ps.length c, .slice B ps.length c2, .int .i64 (flatP ps).length, .bool cx, .bool true], 5⟩
  hJ : hB.m jb = some ⟨jL n o (genP ps) false, 4⟩
  hA : Rv w0 hB A (ptsL ps)
  hBr : Rv w0 hB B (ints (endsP ps))
  hxB : ∀ a, B = some a → a.block ≠ xb
  hxA : ∀ a, A = some a → a.block ≠ xb
  jx : jb ≠ xb
  hnc : ps.length ≤ c
  up : dn.down = false
  good : Good dn
  sc : Scan dn.l ps
  ord : ordB ps = true
  fin : ∀ d e zs v h', TailR dn ps (genP ps) d e zs → OpenW h0 h h' n o v d do_ e (genP ps) (recsP zs) → R v h'
theorem PW_low {P : Program} {w0 : World} {N : Nat} {c : Code} {f : Fr} {h : PH} {Q : Exit → Fr → PH → Prop} (hc : Low w0 h → PW P w0 N c f h Q) : PW P w0 N c f h Q := fun a w fs s => hc (zBy s) a w fs s
theorem Px.PH.Le.delS {h h' : PH} (l : PH.Le h h') (c : Nat) : PH.Le (h.del c) h' := ⟨l.top, fun x k e => by
  rw [PH.del_m] at e
  by_cases hx : x = c
  · rw [if_pos hx] at e; cases e
  · rw [if_neg hx] at e; exact l.m x k e⟩
theorem Px.PH.Le.delN {h h' : PH} (l : PH.Le h h') (c : Nat) (k : Bk) : PH.Le (h.del c) (h'.new c k) := ⟨by simp only [PH.new_top, PH.del_top]; have := l.top; omega, fun x k e => by
  rw [PH.del_m] at e
  by_cases hx : x = c
  · rw [if_pos hx] at e; cases e
  · rw [if_neg hx] at e; rw [PH.new_m, if_neg hx]; exact l.m x k e⟩
set_option maxRecDepth 20000 in
set_option maxHeartbeats 8000000 in
theorem zEt {h0 : PH} {a b : Nat} {da db : Dk} (w0 : World) (h : PH) (hd : D2 h0 h a da b db) (ga : Good da) (gb : Good db) : PCalls Try.prog w0 10 [.pointer (some ⟨a, 0, none⟩), .pointer (some ⟨b, 0, none⟩)] h fun v h' => OpenP h0 h h' a b v da db := by
  refine zCb fun q0 hlq hlow hut => ?_
  have hd0 := hd.mono hlq
  have hF0 : h.top ≤ q0.top := hlq.top
  obtain ⟨R, hR⟩ : ∃ R : Value → PH → Prop, R = fun v h' => OpenP h0 h h' a b v da db := ⟨_, rfl⟩
  rw [← hR]
  refine PCalls_bodyW Try.func10 (by kernel_rfl) rfl _ Try.ntmps10 (by kernel_rfl) _ Try.results10 ?_
  have hka := hd0.cells
  refine zC3 [(), (), ()] (fun f q => q0 = q ∧ da.down = false ∧ db.down = false ∧ f 0 = some (.pointer (some ⟨a, 0, none⟩)) ∧ f 1 = some (.pointer (some ⟨b, 0, none⟩)) ∧ f 7 = some (.func (.func 24) #[] #[])) (by kernel_rfl) (by kernel_rfl) ?_ (fun f q hM => ?_)
  · obtain ⟨h1, hda, _, _⟩ := hd0.use
    have hdn := zB2 h1 a da w0 q0 hda
    dsimp only [zDg, zDp]
    simp -dsimp -implicitDefEqProofs (disch := first | omega | assumption | (simp only [Option.isSome_some,Qt0]; done) | (simp only [List.length_cons,List.length_nil,List.length_append,Int.toNat_natCast] <;> omega) | fail) only [Nat.reduceLT,Nat.reduceLeDiff,Nat.reduceEqDiff,↓reduceIte,Int.reduceLT,Int.reduceLE,Int.reduceToNat,Int.reduceEq,Int.reduceNe,Nat.reduceAdd,Int.reduceAdd,Int.reduceSub,Int.reduceMul,Nat.reduceMul,Qp0,Qp1,Ql0,Qe0,zAt]
    refine hdn.mono ?_
    rintro v hz ⟨rfl, hz'⟩
    obtain rfl := hz'.symm
    cases hua : da.down with
    | true =>
      simp -dsimp -implicitDefEqProofs (disch := first | omega | assumption | (simp only [Option.isSome_some,Qt0]; done) | (simp only [List.length_cons,List.length_nil,List.length_append,Int.toNat_natCast] <;> omega) | fail) only [Nat.reduceLT,Nat.reduceLeDiff,Nat.reduceEqDiff,↓reduceIte,Int.reduceLT,Int.reduceLE,Int.reduceToNat,Int.reduceEq,Int.reduceNe,Nat.reduceAdd,Int.reduceAdd,Int.reduceSub,Int.reduceMul,Nat.reduceMul,Qp0,Qp1,Ql0,Qe0]
      refine (zB8 (some 5) (codeV 5) w0 q0 ⟨.code 5, rfl, rfl⟩).mono ?_
      rintro v hb ⟨e3, rfl, hec, hlb⟩
      simp -dsimp -implicitDefEqProofs (disch := first | omega | assumption | (simp only [Option.isSome_some,Qt0]; done) | (simp only [List.length_cons,List.length_nil,List.length_append,Int.toNat_natCast] <;> omega) | fail) only [Nat.reduceLT,Nat.reduceLeDiff,Nat.reduceEqDiff,↓reduceIte,Int.reduceLT,Int.reduceLE,Int.reduceToNat,Int.reduceEq,Int.reduceNe,Nat.reduceAdd,Int.reduceAdd,Int.reduceSub,Int.reduceMul,Nat.reduceMul,Qp0,Qp1,Ql0,Qe0,zAt]
      refine ⟨_, PH.Le.refl _, ?_⟩
      rw [hR]
      exact ⟨da, db, some 5, false, 0, [], .down (.inl hua), e3, rfl, hec, hd0.mono hlb⟩
    | false =>
    obtain ⟨h2, hdb, _, _⟩ := hd0.symm.use
    have hdn := zB2 h2 b db w0 q0 hdb
    simp -dsimp -implicitDefEqProofs (disch := first | omega | assumption | (simp only [Option.isSome_some,Qt0]; done) | (simp only [List.length_cons,List.length_nil,List.length_append,Int.toNat_natCast] <;> omega) | fail) only [Nat.reduceLT,Nat.reduceLeDiff,Nat.reduceEqDiff,↓reduceIte,Int.reduceLT,Int.reduceLE,Int.reduceToNat,Int.reduceEq,Int.reduceNe,Nat.reduceAdd,Int.reduceAdd,Int.reduceSub,Int.reduceMul,Nat.reduceMul,Qp0,Qp1,Ql0,Qe0]
    refine hdn.mono ?_
    rintro v hz ⟨rfl, hz'⟩
    obtain rfl := hz'.symm
    cases hub : db.down with
    | true =>
      simp -dsimp -implicitDefEqProofs (disch := first | omega | assumption | (simp only [Option.isSome_some,Qt0]; done) | (simp only [List.length_cons,List.length_nil,List.length_append,Int.toNat_natCast] <;> omega) | fail) only [Nat.reduceLT,Nat.reduceLeDiff,Nat.reduceEqDiff,↓reduceIte,Int.reduceLT,Int.reduceLE,Int.reduceToNat,Int.reduceEq,Int.reduceNe,Nat.reduceAdd,Int.reduceAdd,Int.reduceSub,Int.reduceMul,Nat.reduceMul,Qp0,Qp1,Ql0,Qe0]
      refine (zB8 (some 5) (codeV 5) w0 q0 ⟨.code 5, rfl, rfl⟩).mono ?_
      rintro v hb ⟨e3, rfl, hec, hlb⟩
      simp -dsimp -implicitDefEqProofs (disch := first | omega | assumption | (simp only [Option.isSome_some,Qt0]; done) | (simp only [List.length_cons,List.length_nil,List.length_append,Int.toNat_natCast] <;> omega) | fail) only [Nat.reduceLT,Nat.reduceLeDiff,Nat.reduceEqDiff,↓reduceIte,Int.reduceLT,Int.reduceLE,Int.reduceToNat,Int.reduceEq,Int.reduceNe,Nat.reduceAdd,Int.reduceAdd,Int.reduceSub,Int.reduceMul,Nat.reduceMul,Qp0,Qp1,Ql0,Qe0,zAt]
      refine ⟨_, PH.Le.refl _, ?_⟩
      rw [hR]
      exact ⟨da, db, some 5, false, 0, [], .down (.inr hub), e3, rfl, hec, hd0.mono hlb⟩
    | false =>
    simp -dsimp -implicitDefEqProofs (disch := first | omega | assumption | (simp only [Option.isSome_some,Qt0]; done) | (simp only [List.length_cons,List.length_nil,List.length_append,Int.toNat_natCast] <;> omega) | fail) only [Nat.reduceLT,Nat.reduceLeDiff,Nat.reduceEqDiff,↓reduceIte,Int.reduceLT,Int.reduceLE,Int.reduceToNat,Int.reduceEq,Int.reduceNe,Nat.reduceAdd,Int.reduceAdd,Int.reduceSub,Int.reduceMul,Nat.reduceMul,Qp0,Qp1,Ql0,Qe0,zAt]
    exact ⟨by first | trivial | rfl, by trivial, by trivial, by trivial, by trivial, by trivial⟩
  obtain ⟨rfl, hua, hub, f0, f1, f7⟩ := hM
  dsimp only [zDt, zDm]
  refine PW_seq (fun f' q' => q0 = q' ∧ f' 0 = some (.pointer (some ⟨a, 0, none⟩)) ∧ f' 1 = some (.pointer (some ⟨b, 0, none⟩)) ∧ f' 7 = some (.func (.func 24) #[] #[])) ?_ (fun f q' hM => ?_)
  · refine PW_seq (fun f' q' => q0 = q' ∧ f' 31 = some (.bool false) ∧ f' 0 = some (.pointer (some ⟨a, 0, none⟩)) ∧ f' 1 = some (.pointer (some ⟨b, 0, none⟩)) ∧ f' 7 = some (.func (.func 24) #[] #[])) (PW_region3 (by kernel_rfl) rfl ?_) (fun f2 q2 hM2 => ?_)
    · obtain ⟨A, c, B, e, h1, h2, h3, h4, h5, h6, h7⟩ := hka
      simp -dsimp -implicitDefEqProofs (disch := first | omega | assumption | (simp only [Option.isSome_some,Qt0]; done) | (simp only [List.length_cons,List.length_nil,List.length_append,Int.toNat_natCast] <;> omega) | fail) only [Nat.reduceLT,Nat.reduceLeDiff,Nat.reduceEqDiff,↓reduceIte,Int.reduceLT,Int.reduceLE,Int.reduceToNat,Int.reduceEq,Int.reduceNe,Nat.reduceAdd,Int.reduceAdd,Int.reduceSub,Int.reduceMul,Nat.reduceMul,Qp0,Qp1,Ql0,Qe0,f0,f1,f7]
      refine OW_ptrNe (n := 5) rfl (by kernel_rfl) (by kernel_rfl) (by decide) (by simp [Fr.put]) (by simp [Fr.put]) h1 h3 (by omega) (by omega) hd0.ne ?_
      exact ⟨by first | trivial | rfl, by first | rfl | simp [Fr.put], by simp [Fr.put, f0], by simp [Fr.put, f1], by simp [Fr.put, f7]⟩
    · obtain ⟨rfl, f31, f0, f1, f7⟩ := hM2
      refine PW_of (by kernel_rfl) ?_
      simp -dsimp -implicitDefEqProofs (disch := first | omega | assumption | (simp only [Option.isSome_some,Qt0]; done) | (simp only [List.length_cons,List.length_nil,List.length_append,Int.toNat_natCast] <;> omega) | fail) only [Nat.reduceLT,Nat.reduceLeDiff,Nat.reduceEqDiff,↓reduceIte,Int.reduceLT,Int.reduceLE,Int.reduceToNat,Int.reduceEq,Int.reduceNe,Nat.reduceAdd,Int.reduceAdd,Int.reduceSub,Int.reduceMul,Nat.reduceMul,Qp0,Qp1,Ql0,Qe0,zAt,f31]
      exact ⟨by first | trivial | rfl, by first | trivial | simp [f0], by first | trivial | simp [f1], by first | trivial | simp [f7]⟩
  clear f0 f1 f7
  obtain ⟨rfl, f0, f1, f7⟩ := hM
  refine zC3 [(), ()] (fun f q => ∃ xb yb hB ps Ax ca Bx ca2 cx wx qs Ay cb By cb2 cy wy, S0 w0 h0 q h.top a b da db xb yb hB ps Ax ca Bx ca2 cx wx qs Ay cb By cb2 cy wy ∧ f 0 = some (.pointer (some ⟨a, 0, none⟩)) ∧ f 1 = some (.pointer (some ⟨b, 0, none⟩)) ∧ f 7 = some (.func (.func 24) #[] #[]) ∧ f 8 = some (.pointer (some ⟨xb, 0, none⟩)) ∧ f 9 = some .nilIface ∧ f 10 = some (.pointer (some ⟨yb, 0, none⟩)) ∧ f 11 = some .nilIface) (by kernel_rfl) (by kernel_rfl) ?_ (fun f q hM => ?_)
  · dsimp only [zDg, zDp]
    simp -dsimp -implicitDefEqProofs (disch := first | omega | assumption | (simp only [Option.isSome_some,Qt0]; done) | (simp only [List.length_cons,List.length_nil,List.length_append,Int.toNat_natCast] <;> omega) | fail) only [Nat.reduceLT,Nat.reduceLeDiff,Nat.reduceEqDiff,↓reduceIte,Int.reduceLT,Int.reduceLE,Int.reduceToNat,Int.reduceEq,Int.reduceNe,Nat.reduceAdd,Int.reduceAdd,Int.reduceSub,Int.reduceMul,Nat.reduceMul,Qp0,Qp1,Ql0,Qe0,zAt,f0,f1,f7]
    refine (zIs w0 _ hd0 ga hua).mono ?_
    rintro v q1 ⟨Lx, hA, rfl, hlA, htA, hdA, hkx⟩
    obtain ⟨ps, Ax, ca, Bx, ca2, cx, fx1, fx2, sx1, sx2, hLx, rx1, rx2, nx1, nx2⟩ := hkx
    obtain ⟨wx, hwx⟩ : ∃ w, wh cx ps = w := ⟨_, rfl⟩
    have hLx' : Lx = [.slice Ax ps.length ca, .slice Bx ps.length ca2, .int .i64 (flatP ps).length, .bool cx, .bool wx] := by rw [hLx]; unfold lkL; rw [← hwx]; rfl
    subst hLx'
    clear hLx
    have hox := zC7 [.slice Ax ps.length ca, .slice Bx ps.length ca2, .int .i64 (flatP ps).length, .bool cx, .bool wx] rfl
    simp -dsimp -implicitDefEqProofs (disch := first | omega | assumption | (simp only [Option.isSome_some,Qt0]; done) | (simp only [List.length_cons,List.length_nil,List.length_append,Int.toNat_natCast] <;> omega) | fail) only [Nat.reduceLT,Nat.reduceLeDiff,Nat.reduceEqDiff,↓reduceIte,Int.reduceLT,Int.reduceLE,Int.reduceToNat,Int.reduceEq,Int.reduceNe,Nat.reduceAdd,Int.reduceAdd,Int.reduceSub,Int.reduceMul,Nat.reduceMul,Qp0,Qp1,Ql0,Qe0,f0,f1,f7]
    refine fun xb hxb => ?_
    have hdX := hdA.new (k := ⟨[.slice Ax ps.length ca, .slice Bx ps.length ca2, .int .i64 (flatP ps).length, .bool cx, .bool wx], 5⟩) hxb
    have hlX : PH.Le hA (hA.new xb ⟨[.slice Ax ps.length ca, .slice Bx ps.length ca2, .int .i64 (flatP ps).length, .bool cx, .bool wx], 5⟩) := (PH.Le.refl hA).new _ _ (Nat.le_trans hdA.top hxb)
    have hmX : (hA.new xb ⟨[.slice Ax ps.length ca, .slice Bx ps.length ca2, .int .i64 (flatP ps).length, .bool cx, .bool wx], 5⟩).m xb = some ⟨[.slice Ax ps.length ca, .slice Bx ps.length ca2, .int .i64 (flatP ps).length, .bool cx, .bool wx], 5⟩ := by rw [PH.new_m, if_pos rfl]
    have hxt : xb < (q1.new xb ⟨[.slice Ax ps.length ca, .slice Bx ps.length ca2, .int .i64 (flatP ps).length, .bool cx, .bool wx], 5⟩).top := by simp only [PH.new_top]; omega
    have hFx : q0.top ≤ q1.top := Nat.le_trans htA hdA.top
    have hax : ps ≠ [] → ∀ a, Ax = some a → a.block ≠ xb := fun hp a e => by
      have := rx1.below (by rw [zC6]; have := List.length_pos_iff.2 hp; omega) (T := xb) (Nat.le_trans hdA.top hxb) (by omega) a e
      omega
    have hbx : ps ≠ [] → ∀ a, Bx = some a → a.block ≠ xb := fun hp a e => by
      have := rx2.below (by rw [zHx, zF2]; exact List.length_pos_iff.2 hp) (T := xb) (Nat.le_trans hdA.top hxb) (by omega) a e
      omega
    simp -dsimp -implicitDefEqProofs (disch := first | omega | assumption | (simp only [Option.isSome_some,Qt0]; done) | (simp only [List.length_cons,List.length_nil,List.length_append,Int.toNat_natCast] <;> omega) | fail) only [Nat.reduceLT,Nat.reduceLeDiff,Nat.reduceEqDiff,↓reduceIte,Int.reduceLT,Int.reduceLE,Int.reduceToNat,Int.reduceEq,Int.reduceNe,Nat.reduceAdd,Int.reduceAdd,Int.reduceSub,Int.reduceMul,Nat.reduceMul,Qp0,Qp1,Ql0,Qe0,f0,f1,f7,List.set_cons_zero,List.set_cons_succ,List.take_zero,List.drop_succ_cons,List.drop_zero,List.drop_nil,List.nil_append,List.append_nil,List.take_succ_cons,ite_true,PH.new_new]
    generalize hA.new xb ⟨[.slice Ax ps.length ca, .slice Bx ps.length ca2, .int .i64 (flatP ps).length, .bool cx, .bool wx], 5⟩ = hA1 at *
    generalize q1.new xb ⟨[.slice Ax ps.length ca, .slice Bx ps.length ca2, .int .i64 (flatP ps).length, .bool cx, .bool wx], 5⟩ = q2 at *
    refine (zIs w0 q2 hdX.symm gb hub).mono ?_
    rintro v q3 ⟨Ly, hB0, rfl, hlB, htB, hdB, hky⟩
    obtain ⟨qs, Ay, cb, By, cb2, cy, fy1, fy2, sy1, sy2, hLy, ry1, ry2, ny1, ny2⟩ := hky
    obtain ⟨wy, hwy⟩ : ∃ w, wh cy qs = w := ⟨_, rfl⟩
    have hLy' : Ly = [.slice Ay qs.length cb, .slice By qs.length cb2, .int .i64 (flatP qs).length, .bool cy, .bool wy] := by rw [hLy]; unfold lkL; rw [← hwy]; rfl
    subst hLy'
    clear hLy
    have hoy := zC7 [.slice Ay qs.length cb, .slice By qs.length cb2, .int .i64 (flatP qs).length, .bool cy, .bool wy] rfl
    simp -dsimp -implicitDefEqProofs (disch := first | omega | assumption | (simp only [Option.isSome_some,Qt0]; done) | (simp only [List.length_cons,List.length_nil,List.length_append,Int.toNat_natCast] <;> omega) | fail) only [Nat.reduceLT,Nat.reduceLeDiff,Nat.reduceEqDiff,↓reduceIte,Int.reduceLT,Int.reduceLE,Int.reduceToNat,Int.reduceEq,Int.reduceNe,Nat.reduceAdd,Int.reduceAdd,Int.reduceSub,Int.reduceMul,Nat.reduceMul,Qp0,Qp1,Ql0,Qe0,f0,f1,f7]
    refine fun yb hyb => ?_
    have hdY := hdB.symm.new (k := ⟨[.slice Ay qs.length cb, .slice By qs.length cb2, .int .i64 (flatP qs).length, .bool cy, .bool wy], 5⟩) hyb
    have hlY : PH.Le hB0 (hB0.new yb ⟨[.slice Ay qs.length cb, .slice By qs.length cb2, .int .i64 (flatP qs).length, .bool cy, .bool wy], 5⟩) := (PH.Le.refl hB0).new _ _ (Nat.le_trans hdB.top hyb)
    have hmY : (hB0.new yb ⟨[.slice Ay qs.length cb, .slice By qs.length cb2, .int .i64 (flatP qs).length, .bool cy, .bool wy], 5⟩).m yb = some ⟨[.slice Ay qs.length cb, .slice By qs.length cb2, .int .i64 (flatP qs).length, .bool cy, .bool wy], 5⟩ := by rw [PH.new_m, if_pos rfl]
    simp -dsimp -implicitDefEqProofs (disch := first | omega | assumption | (simp only [Option.isSome_some,Qt0]; done) | (simp only [List.length_cons,List.length_nil,List.length_append,Int.toNat_natCast] <;> omega) | fail) only [Nat.reduceLT,Nat.reduceLeDiff,Nat.reduceEqDiff,↓reduceIte,Int.reduceLT,Int.reduceLE,Int.reduceToNat,Int.reduceEq,Int.reduceNe,Nat.reduceAdd,Int.reduceAdd,Int.reduceSub,Int.reduceMul,Nat.reduceMul,Qp0,Qp1,Ql0,Qe0,zAt,f0,f1,f7,List.set_cons_zero,List.set_cons_succ,List.take_zero,List.drop_succ_cons,List.drop_zero,List.drop_nil,List.nil_append,List.append_nil,List.take_succ_cons,ite_true,PH.new_new]
    have hxB : hB0.m xb = some ⟨[.slice Ax ps.length ca, .slice Bx ps.length ca2, .int .i64 (flatP ps).length, .bool cx, .bool wx], 5⟩ := hlB.m _ _ hmX
    have hxlt := hB0.lt _ _ hxB
    have hyt : hB0.top ≤ yb := Nat.le_trans hdB.top hyb
    have hxm := hlY.m _ _ hxB
    have hx0 : h0.top ≤ xb := by have := hd0.top; omega
    have hxq : q2.m xb = some ⟨[.slice Ax ps.length ca, .slice Bx ps.length ca2, .int .i64 (flatP ps).length, .bool cx, .bool wx], 5⟩ := hdX.same _ _ hmX
    have hxq2 := q2.lt _ _ hxq
    exact ⟨xb, yb, _, ps, Ax, ca, Bx, ca2, cx, wx, qs, Ay, cb, By, cb2, cy, wy, ⟨hdY, (hlA.trans hlX).trans (hlB.trans hlY), by omega, hx0, by omega, hxm, hmY, ⟨sx1, sx2⟩, ⟨sy1, sy2⟩, hwx, hwy, rx1.more (hlX.trans (hlB.trans hlY)), rx2.more (hlX.trans (hlB.trans hlY)), ry1.more hlY, ry2.more hlY, ⟨nx1, nx2⟩, ⟨ny1, ny2⟩, hbx, hax, fun a e q => by have := fy1 a e; omega, fun a e q => by have := fy2 a e; omega, by omega, by have := hlY.top; omega⟩, by first | trivial | simp [f0], by first | trivial | simp [f1], by first | trivial | simp [f7], by trivial, by trivial, by trivial, by trivial⟩
  obtain ⟨xb, yb, hB, ps, Ax, ca, Bx, ca2, cx, wx, qs, Ay, cb, By, cb2, cy, wy, S, f0, f1, f7, f8, f9, f10, f11⟩ := hM
  refine zC3 [()] (fun f' q' => S0 w0 h0 q' h.top a b da db xb yb hB ps Ax ca Bx ca2 cx wx qs Ay cb By cb2 cy wy ∧ badC cx cy ps qs = false ∧ (wx = true ∨ wy = true) ∧ f' 0 = some (.pointer (some ⟨a, 0, none⟩)) ∧ f' 1 = some (.pointer (some ⟨b, 0, none⟩)) ∧ f' 7 = some (.func (.func 24) #[] #[]) ∧ f' 8 = some (.pointer (some ⟨xb, 0, none⟩)) ∧ f' 10 = some (.pointer (some ⟨yb, 0, none⟩))) (by kernel_rfl) (by kernel_rfl) ?_ (fun f q hM => ?_)
  · dsimp only [zDt, zDm, zDg, zDp]
    simp -dsimp -implicitDefEqProofs (disch := first | omega | assumption | (simp only [Option.isSome_some,Qt0]; done) | (simp only [List.length_cons,List.length_nil,List.length_append,Int.toNat_natCast] <;> omega) | fail) only [Nat.reduceLT,Nat.reduceLeDiff,Nat.reduceEqDiff,↓reduceIte,Int.reduceLT,Int.reduceLE,Int.reduceToNat,Int.reduceEq,Int.reduceNe,Nat.reduceAdd,Int.reduceAdd,Int.reduceSub,Int.reduceMul,Nat.reduceMul,Qp0,Qp1,Ql0,Qe0,zAt,f0,f1,f7,f8,f9,f10,f11]
    have hDH := S.hD.mono (PH.Le.refl q)
    have hmx := hDH.same _ _ S.hX
    have hmy := hDH.same _ _ S.hY
    have hcx : rdN w0 q ⟨xb, 0, none⟩ 5 = some [.slice Ax ps.length ca, .slice Bx ps.length ca2, .int .i64 (flatP ps).length, .bool cx, .bool wx] := by unfold rdN; simp only [hmx]; rfl
    have hcy : rdN w0 q ⟨yb, 0, none⟩ 5 = some [.slice Ay qs.length cb, .slice By qs.length cb2, .int .i64 (flatP qs).length, .bool cy, .bool wy] := by unfold rdN; simp only [hmy]; rfl
    have gX := fun h2 (l : PH.Le q h2) => zCs Ax Bx ca ps.length ca2 (flatP ps).length cx wx ps w0 h2 ((S.rx1.more hDH.le).more l)
    have gY := fun h2 (l : PH.Le q h2) => zCs Ay By cb qs.length cb2 (flatP qs).length cy wy qs w0 h2 ((S.ry1.more hDH.le).more l)
    unfold lkL at gX gY
    refine zCo (Q := fun e f' h' => e = .normal ∧ PH.Le q h' ∧ f' 63 = some (.bool (badX cx cy ps qs)) ∧ f' 0 = some (.pointer (some ⟨a, 0, none⟩)) ∧ f' 1 = some (.pointer (some ⟨b, 0, none⟩)) ∧ f' 7 = some (.func (.func 24) #[] #[]) ∧ f' 8 = some (.pointer (some ⟨xb, 0, none⟩)) ∧ f' 10 = some (.pointer (some ⟨yb, 0, none⟩))) (zB0 (.take 0 (.take 1 (.take 2 (.take 3 (.take 4 (.take 5 (.take 6 (.take 7 (.take 8 (.take 9 (.take 10 (.take 11 (.take 13 (.take 12 (.take 14 (.take 15 (.take 16 (.take 17 (.take 18 (.take 19 .done)))))))))))))))))))) q (by kernel_rfl) (by decide +kernel) (by kernel_rfl) (by kernel_rfl) (by kernel_rfl) (fun c f h hq => by cases hq.1) (PH.Le.refl _).sub ?_) (fun e f q5 ⟨he, hlq5, f63, f0, f1, f7, f8, f10⟩ => ?_)
    · by_cases hc0 : cx = false
      · have hbx : badX cx cy ps qs = false := by unfold badX; rw [hc0]; rfl
        simp -dsimp -implicitDefEqProofs (disch := first | omega | assumption | (simp only [Option.isSome_some,Qt0]; done) | (simp only [List.length_cons,List.length_nil,List.length_append,Int.toNat_natCast] <;> omega) | fail) only [Nat.reduceLT,Nat.reduceLeDiff,Nat.reduceEqDiff,↓reduceIte,Int.reduceLT,Int.reduceLE,Int.reduceToNat,Int.reduceEq,Int.reduceNe,Nat.reduceAdd,Int.reduceAdd,Int.reduceSub,Int.reduceMul,Nat.reduceMul,Qp0,Qp1,Ql0,Qe0,zAo,zAg,zAm,zAj,zAh,zAk,zAl,zAi,zAn,zAf,f0,f1,f7,f8,f10,zAa,zAb,hmx,hmy,hcx,hcy,hc0]
        iterate 3
          refine ⟨(PH.Le.refl _).sub, ?_⟩
          simp -dsimp -implicitDefEqProofs (disch := first | omega | assumption | (simp only [Option.isSome_some,Qt0]; done) | (simp only [List.length_cons,List.length_nil,List.length_append,Int.toNat_natCast] <;> omega) | fail) only [Nat.reduceLT,Nat.reduceLeDiff,Nat.reduceEqDiff,↓reduceIte,Int.reduceLT,Int.reduceLE,Int.reduceToNat,Int.reduceEq,Int.reduceNe,Nat.reduceAdd,Int.reduceAdd,Int.reduceSub,Int.reduceMul,Nat.reduceMul,Qp0,Qp1,Ql0,Qe0,zAo,zAg,zAm,zAj,zAh,zAk,zAl,zAi,zAn,zAf,f0,f1,f7,f8,f10,zAa,zAb,hmx,hmy,hcx,hcy,hc0]
        exact ⟨by trivial, PH.Le.refl _, by first | rw [hbx] | (have hb := hbx; rw [hc1] at hb; rw [hb]) | (have hb := hbx; rw [hc0] at hb; rw [hb]) | (have hb := hbx; simp only [hc1, hw1] at hb; simp only [hb]), by first | trivial | simp [f0], by first | trivial | simp [f1], by first | trivial | simp [f7], by first | trivial | simp [f8], by first | trivial | simp [f10]⟩
      have hc1 : cx = true := by cases h : cx <;> simp_all
      simp -dsimp -implicitDefEqProofs (disch := first | omega | assumption | (simp only [Option.isSome_some,Qt0]; done) | (simp only [List.length_cons,List.length_nil,List.length_append,Int.toNat_natCast] <;> omega) | fail) only [Nat.reduceLT,Nat.reduceLeDiff,Nat.reduceEqDiff,↓reduceIte,Int.reduceLT,Int.reduceLE,Int.reduceToNat,Int.reduceEq,Int.reduceNe,Nat.reduceAdd,Int.reduceAdd,Int.reduceSub,Int.reduceMul,Nat.reduceMul,Qp0,Qp1,Ql0,Qe0,zAo,zAg,zAm,zAj,zAh,zAk,zAl,zAi,zAn,zAf,f0,f1,f7,f8,f10,zAa,zAb,hmx,hmy,hcx,hcy,hc1]
      rw [hc1] at gX
      refine (gX q (PH.Le.refl _)).mono ?_
      rintro v s1 ⟨rfl, hs1⟩
      simp -dsimp -implicitDefEqProofs (disch := first | omega | assumption | (simp only [Option.isSome_some,Qt0]; done) | (simp only [List.length_cons,List.length_nil,List.length_append,Int.toNat_natCast] <;> omega) | fail) only [Nat.reduceLT,Nat.reduceLeDiff,Nat.reduceEqDiff,↓reduceIte,Int.reduceLT,Int.reduceLE,Int.reduceToNat,Int.reduceEq,Int.reduceNe,Nat.reduceAdd,Int.reduceAdd,Int.reduceSub,Int.reduceMul,Nat.reduceMul,Qp0,Qp1,Ql0,Qe0,zAo,zAg,zAm,zAj,zAh,zAk,zAl,zAi,zAn,zAf,f0,f1,f7,f8,f10,zAa,zAb,hmx,hmy,hcx,hcy,hc1]
      refine ⟨hs1.sub, ?_⟩
      by_cases hg0 : 0 < genP ps
      rotate_left
      · have d1 : decide (0 < (genP ps : Int)) = false := decide_eq_false (by omega)
        have hbx : badX cx cy ps qs = true := by unfold badX; rw [hc1, decide_eq_false hg0]; rfl
        simp -dsimp -implicitDefEqProofs (disch := first | omega | assumption | (simp only [Option.isSome_some,Qt0]; done) | (simp only [List.length_cons,List.length_nil,List.length_append,Int.toNat_natCast] <;> omega) | fail) only [Nat.reduceLT,Nat.reduceLeDiff,Nat.reduceEqDiff,↓reduceIte,Int.reduceLT,Int.reduceLE,Int.reduceToNat,Int.reduceEq,Int.reduceNe,Nat.reduceAdd,Int.reduceAdd,Int.reduceSub,Int.reduceMul,Nat.reduceMul,Qp0,Qp1,Ql0,Qe0,zAo,zAg,zAm,zAj,zAh,zAk,zAl,zAi,zAn,zAf,f0,f1,f7,f8,f10,zAa,zAb,hmx,hmy,hcx,hcy,hc1,gt_iff_lt,d1]
        iterate 2
          refine ⟨hs1.sub, ?_⟩
          simp -dsimp -implicitDefEqProofs (disch := first | omega | assumption | (simp only [Option.isSome_some,Qt0]; done) | (simp only [List.length_cons,List.length_nil,List.length_append,Int.toNat_natCast] <;> omega) | fail) only [Nat.reduceLT,Nat.reduceLeDiff,Nat.reduceEqDiff,↓reduceIte,Int.reduceLT,Int.reduceLE,Int.reduceToNat,Int.reduceEq,Int.reduceNe,Nat.reduceAdd,Int.reduceAdd,Int.reduceSub,Int.reduceMul,Nat.reduceMul,Qp0,Qp1,Ql0,Qe0,zAo,zAg,zAm,zAj,zAh,zAk,zAl,zAi,zAn,zAf,f0,f1,f7,f8,f10,zAa,zAb,hmx,hmy,hcx,hcy,hc1,gt_iff_lt,d1]
        exact ⟨by trivial, hs1, by first | rw [hbx] | (have hb := hbx; rw [hc1] at hb; rw [hb]) | (have hb := hbx; rw [hc0] at hb; rw [hb]) | (have hb := hbx; simp only [hc1, hw1] at hb; simp only [hb]), by first | trivial | simp [f0], by first | trivial | simp [f1], by first | trivial | simp [f7], by first | trivial | simp [f8], by first | trivial | simp [f10]⟩
      have d1 : decide (0 < (genP ps : Int)) = true := decide_eq_true (by omega)
      by_cases hw0 : wy = false
      · have hbx : badX cx cy ps qs = true := by unfold badX; rw [hc1, S.hwy, hw0]; simp
        simp -dsimp -implicitDefEqProofs (disch := first | omega | assumption | (simp only [Option.isSome_some,Qt0]; done) | (simp only [List.length_cons,List.length_nil,List.length_append,Int.toNat_natCast] <;> omega) | fail) only [Nat.reduceLT,Nat.reduceLeDiff,Nat.reduceEqDiff,↓reduceIte,Int.reduceLT,Int.reduceLE,Int.reduceToNat,Int.reduceEq,Int.reduceNe,Nat.reduceAdd,Int.reduceAdd,Int.reduceSub,Int.reduceMul,Nat.reduceMul,Qp0,Qp1,Ql0,Qe0,zAo,zAg,zAm,zAj,zAh,zAk,zAl,zAi,zAn,zAf,f0,f1,f7,f8,f10,zAa,zAb,hmx,hmy,hcx,hcy,hc1,gt_iff_lt,d1,hw0]
        iterate 2
          refine ⟨hs1.sub, ?_⟩
          simp -dsimp -implicitDefEqProofs (disch := first | omega | assumption | (simp only [Option.isSome_some,Qt0]; done) | (simp only [List.length_cons,List.length_nil,List.length_append,Int.toNat_natCast] <;> omega) | fail) only [Nat.reduceLT,Nat.reduceLeDiff,Nat.reduceEqDiff,↓reduceIte,Int.reduceLT,Int.reduceLE,Int.reduceToNat,Int.reduceEq,Int.reduceNe,Nat.reduceAdd,Int.reduceAdd,Int.reduceSub,Int.reduceMul,Nat.reduceMul,Qp0,Qp1,Ql0,Qe0,zAo,zAg,zAm,zAj,zAh,zAk,zAl,zAi,zAn,zAf,f0,f1,f7,f8,f10,zAa,zAb,hmx,hmy,hcx,hcy,hc1,gt_iff_lt,d1,hw0]
        exact ⟨by trivial, hs1, by first | rw [hbx] | (have hb := hbx; rw [hc1] at hb; rw [hb]) | (have hb := hbx; rw [hc0] at hb; rw [hb]) | (have hb := hbx; simp only [hc1, hw1] at hb; simp only [hb]), by first | trivial | simp [f0], by first | trivial | simp [f1], by first | trivial | simp [f7], by first | trivial | simp [f8], by first | trivial | simp [f10]⟩
      have hw1 : wy = true := by cases h : wy <;> simp_all
      rw [hw1] at gY
      simp -dsimp -implicitDefEqProofs (disch := first | omega | assumption | (simp only [Option.isSome_some,Qt0]; done) | (simp only [List.length_cons,List.length_nil,List.length_append,Int.toNat_natCast] <;> omega) | fail) only [Nat.reduceLT,Nat.reduceLeDiff,Nat.reduceEqDiff,↓reduceIte,Int.reduceLT,Int.reduceLE,Int.reduceToNat,Int.reduceEq,Int.reduceNe,Nat.reduceAdd,Int.reduceAdd,Int.reduceSub,Int.reduceMul,Nat.reduceMul,Qp0,Qp1,Ql0,Qe0,zAo,zAg,zAm,zAj,zAh,zAk,zAl,zAi,zAn,zAf,f0,f1,f7,f8,f10,zAa,zAb,hmx,hmy,hcx,hcy,hc1,gt_iff_lt,d1,hw1]
      refine (gY s1 hs1).mono ?_
      rintro v s2 ⟨rfl, hs2⟩
      simp -dsimp -implicitDefEqProofs (disch := first | omega | assumption | (simp only [Option.isSome_some,Qt0]; done) | (simp only [List.length_cons,List.length_nil,List.length_append,Int.toNat_natCast] <;> omega) | fail) only [Nat.reduceLT,Nat.reduceLeDiff,Nat.reduceEqDiff,↓reduceIte,Int.reduceLT,Int.reduceLE,Int.reduceToNat,Int.reduceEq,Int.reduceNe,Nat.reduceAdd,Int.reduceAdd,Int.reduceSub,Int.reduceMul,Nat.reduceMul,Qp0,Qp1,Ql0,Qe0,zAo,zAg,zAm,zAj,zAh,zAk,zAl,zAi,zAn,zAf,f0,f1,f7,f8,f10,zAa,zAb,hmx,hmy,hcx,hcy,hc1,gt_iff_lt,d1,hw1]
      refine ⟨(hs1.trans hs2).sub, ?_⟩
      simp -dsimp -implicitDefEqProofs (disch := first | omega | assumption | (simp only [Option.isSome_some,Qt0]; done) | (simp only [List.length_cons,List.length_nil,List.length_append,Int.toNat_natCast] <;> omega) | fail) only [Nat.reduceLT,Nat.reduceLeDiff,Nat.reduceEqDiff,↓reduceIte,Int.reduceLT,Int.reduceLE,Int.reduceToNat,Int.reduceEq,Int.reduceNe,Nat.reduceAdd,Int.reduceAdd,Int.reduceSub,Int.reduceMul,Nat.reduceMul,Qp0,Qp1,Ql0,Qe0,zAo,zAg,zAm,zAj,zAh,zAk,zAl,zAi,zAn,zAf,f0,f1,f7,f8,f10,zAa,zAb,hmx,hmy,hcx,hcy,hc1,gt_iff_lt,d1,hw1]
      refine (gX s2 (hs1.trans hs2)).mono ?_
      rintro v s3 ⟨rfl, hs3⟩
      obtain ⟨cmp, hcmp⟩ : ∃ z, decide (genP ps < genP qs) = z := ⟨_, rfl⟩
      have d2 : decide ((genP ps : Int) < (genP qs : Int)) = cmp := by rw [← hcmp]; by_cases q : genP ps < genP qs <;> simp [q]
      have hbx : badX cx cy ps qs = !cmp := by unfold badX; rw [hc1, S.hwy, hw1, hcmp, decide_eq_true hg0]; simp
      simp -dsimp -implicitDefEqProofs (disch := first | omega | assumption | (simp only [Option.isSome_some,Qt0]; done) | (simp only [List.length_cons,List.length_nil,List.length_append,Int.toNat_natCast] <;> omega) | fail) only [Nat.reduceLT,Nat.reduceLeDiff,Nat.reduceEqDiff,↓reduceIte,Int.reduceLT,Int.reduceLE,Int.reduceToNat,Int.reduceEq,Int.reduceNe,Nat.reduceAdd,Int.reduceAdd,Int.reduceSub,Int.reduceMul,Nat.reduceMul,Qp0,Qp1,Ql0,Qe0,zAo,zAg,zAm,zAj,zAh,zAk,zAl,zAi,zAn,zAf,f0,f1,f7,f8,f10,zAa,zAb,hmx,hmy,hcx,hcy,hc1,gt_iff_lt,d1,hw1,d2]
      refine ⟨((hs1.trans hs2).trans hs3).sub, ?_⟩
      simp -dsimp -implicitDefEqProofs (disch := first | omega | assumption | (simp only [Option.isSome_some,Qt0]; done) | (simp only [List.length_cons,List.length_nil,List.length_append,Int.toNat_natCast] <;> omega) | fail) only [Nat.reduceLT,Nat.reduceLeDiff,Nat.reduceEqDiff,↓reduceIte,Int.reduceLT,Int.reduceLE,Int.reduceToNat,Int.reduceEq,Int.reduceNe,Nat.reduceAdd,Int.reduceAdd,Int.reduceSub,Int.reduceMul,Nat.reduceMul,Qp0,Qp1,Ql0,Qe0,zAo,zAg,zAm,zAj,zAh,zAk,zAl,zAi,zAn,zAf,f0,f1,f7,f8,f10,zAa,zAb,hmx,hmy,hcx,hcy,hc1,gt_iff_lt,d1,hw1,d2]
      exact ⟨by trivial, (hs1.trans hs2).trans hs3, by first | rw [hbx] | (have hb := hbx; rw [hc1] at hb; rw [hb]) | (have hb := hbx; rw [hc0] at hb; rw [hb]) | (have hb := hbx; simp only [hc1, hw1] at hb; simp only [hb]), by first | trivial | simp [f0], by first | trivial | simp [f1], by first | trivial | simp [f7], by first | trivial | simp [f8], by first | trivial | simp [f10]⟩
    subst he
    clear gX gY hcx hcy hmx hmy hDH
    cases hb1 : badX cx cy ps qs with
    | true =>
      rw [hb1] at f63
      simp -dsimp -implicitDefEqProofs (disch := first | omega | assumption | (simp only [Option.isSome_some,Qt0]; done) | (simp only [List.length_cons,List.length_nil,List.length_append,Int.toNat_natCast] <;> omega) | fail) only [Nat.reduceLT,Nat.reduceLeDiff,Nat.reduceEqDiff,↓reduceIte,Int.reduceLT,Int.reduceLE,Int.reduceToNat,Int.reduceEq,Int.reduceNe,Nat.reduceAdd,Int.reduceAdd,Int.reduceSub,Int.reduceMul,Nat.reduceMul,Qp0,Qp1,Ql0,Qe0,zAt,f0,f1,f7,f8,f10,f63]
      refine (zB8 (some 6) (codeV 6) w0 q5 ⟨.code 6, rfl, rfl⟩).mono ?_
      rintro v hb ⟨e3, rfl, hec, hlb⟩
      simp -dsimp -implicitDefEqProofs (disch := first | omega | assumption | (simp only [Option.isSome_some,Qt0]; done) | (simp only [List.length_cons,List.length_nil,List.length_append,Int.toNat_natCast] <;> omega) | fail) only [Nat.reduceLT,Nat.reduceLeDiff,Nat.reduceEqDiff,↓reduceIte,Int.reduceLT,Int.reduceLE,Int.reduceToNat,Int.reduceEq,Int.reduceNe,Nat.reduceAdd,Int.reduceAdd,Int.reduceSub,Int.reduceMul,Nat.reduceMul,Qp0,Qp1,Ql0,Qe0,zAt]
      refine ⟨_, PH.Le.refl _, ?_⟩
      rw [hR]
      exact ⟨da, db, some 6, false, 0, [], .corrupt ps qs cx cy ⟨hua, hub⟩ S.kx S.ky (by unfold badC; rw [hb1]; rfl), e3, rfl, hec, ((S.hD.mono hlq5).mono hlb).base S.le⟩
    | false =>
    rw [hb1] at f63
    simp -dsimp -implicitDefEqProofs (disch := first | omega | assumption | (simp only [Option.isSome_some,Qt0]; done) | (simp only [List.length_cons,List.length_nil,List.length_append,Int.toNat_natCast] <;> omega) | fail) only [Nat.reduceLT,Nat.reduceLeDiff,Nat.reduceEqDiff,↓reduceIte,Int.reduceLT,Int.reduceLE,Int.reduceToNat,Int.reduceEq,Int.reduceNe,Nat.reduceAdd,Int.reduceAdd,Int.reduceSub,Int.reduceMul,Nat.reduceMul,Qp0,Qp1,Ql0,Qe0,zAt,f0,f1,f7,f8,f10,f63]
    clear f63
    have hDH := S.hD.mono hlq5
    have hmx := hDH.same _ _ S.hX
    have hmy := hDH.same _ _ S.hY
    have hcx : rdN w0 q5 ⟨xb, 0, none⟩ 5 = some [.slice Ax ps.length ca, .slice Bx ps.length ca2, .int .i64 (flatP ps).length, .bool cx, .bool wx] := by unfold rdN; simp only [hmx]; rfl
    have hcy : rdN w0 q5 ⟨yb, 0, none⟩ 5 = some [.slice Ay qs.length cb, .slice By qs.length cb2, .int .i64 (flatP qs).length, .bool cy, .bool wy] := by unfold rdN; simp only [hmy]; rfl
    have gX := fun h2 (l : PH.Le q5 h2) => zCs Ay By cb qs.length cb2 (flatP qs).length cy wy qs w0 h2 ((S.ry1.more hDH.le).more l)
    have gY := fun h2 (l : PH.Le q5 h2) => zCs Ax Bx ca ps.length ca2 (flatP ps).length cx wx ps w0 h2 ((S.rx1.more hDH.le).more l)
    unfold lkL at gX gY
    refine zCo (Q := fun e f' h' => e = .normal ∧ PH.Le q5 h' ∧ f' 63 = some (.bool (badX cy cx qs ps)) ∧ f' 0 = some (.pointer (some ⟨a, 0, none⟩)) ∧ f' 1 = some (.pointer (some ⟨b, 0, none⟩)) ∧ f' 7 = some (.func (.func 24) #[] #[]) ∧ f' 8 = some (.pointer (some ⟨xb, 0, none⟩)) ∧ f' 10 = some (.pointer (some ⟨yb, 0, none⟩))) (zB0 (.take 0 (.take 1 (.take 2 (.take 3 (.take 4 (.take 5 (.take 6 (.take 7 (.take 8 (.take 9 (.take 10 (.take 11 (.take 13 (.take 12 (.take 14 (.take 15 (.take 16 (.take 17 (.take 18 (.take 19 .done)))))))))))))))))))) q5 (by kernel_rfl) (by decide +kernel) (by kernel_rfl) (by kernel_rfl) (by kernel_rfl) (fun c f h hq => by cases hq.1) (PH.Le.refl _).sub ?_) (fun e f q6 ⟨he, hlq6, f63, f0, f1, f7, f8, f10⟩ => ?_)
    · by_cases hc0 : cy = false
      · have hbx : badX cy cx qs ps = false := by unfold badX; rw [hc0]; rfl
        simp -dsimp -implicitDefEqProofs (disch := first | omega | assumption | (simp only [Option.isSome_some,Qt0]; done) | (simp only [List.length_cons,List.length_nil,List.length_append,Int.toNat_natCast] <;> omega) | fail) only [Nat.reduceLT,Nat.reduceLeDiff,Nat.reduceEqDiff,↓reduceIte,Int.reduceLT,Int.reduceLE,Int.reduceToNat,Int.reduceEq,Int.reduceNe,Nat.reduceAdd,Int.reduceAdd,Int.reduceSub,Int.reduceMul,Nat.reduceMul,Qp0,Qp1,Ql0,Qe0,zAo,zAg,zAm,zAj,zAh,zAk,zAl,zAi,zAn,zAf,f0,f1,f7,f8,f10,zAa,zAb,hmx,hmy,hcx,hcy,hc0]
        iterate 3
          refine ⟨(PH.Le.refl _).sub, ?_⟩
          simp -dsimp -implicitDefEqProofs (disch := first | omega | assumption | (simp only [Option.isSome_some,Qt0]; done) | (simp only [List.length_cons,List.length_nil,List.length_append,Int.toNat_natCast] <;> omega) | fail) only [Nat.reduceLT,Nat.reduceLeDiff,Nat.reduceEqDiff,↓reduceIte,Int.reduceLT,Int.reduceLE,Int.reduceToNat,Int.reduceEq,Int.reduceNe,Nat.reduceAdd,Int.reduceAdd,Int.reduceSub,Int.reduceMul,Nat.reduceMul,Qp0,Qp1,Ql0,Qe0,zAo,zAg,zAm,zAj,zAh,zAk,zAl,zAi,zAn,zAf,f0,f1,f7,f8,f10,zAa,zAb,hmx,hmy,hcx,hcy,hc0]
        exact ⟨by trivial, PH.Le.refl _, by first | rw [hbx] | (have hb := hbx; rw [hc1] at hb; rw [hb]) | (have hb := hbx; rw [hc0] at hb; rw [hb]) | (have hb := hbx; simp only [hc1, hw1] at hb; simp only [hb]), by first | trivial | simp [f0], by first | trivial | simp [f1], by first | trivial | simp [f7], by first | trivial | simp [f8], by first | trivial | simp [f10]⟩
      have hc1 : cy = true := by cases h : cy <;> simp_all
      simp -dsimp -implicitDefEqProofs (disch := first | omega | assumption | (simp only [Option.isSome_some,Qt0]; done) | (simp only [List.length_cons,List.length_nil,List.length_append,Int.toNat_natCast] <;> omega) | fail) only [Nat.reduceLT,Nat.reduceLeDiff,Nat.reduceEqDiff,↓reduceIte,Int.reduceLT,Int.reduceLE,Int.reduceToNat,Int.reduceEq,Int.reduceNe,Nat.reduceAdd,Int.reduceAdd,Int.reduceSub,Int.reduceMul,Nat.reduceMul,Qp0,Qp1,Ql0,Qe0,zAo,zAg,zAm,zAj,zAh,zAk,zAl,zAi,zAn,zAf,f0,f1,f7,f8,f10,zAa,zAb,hmx,hmy,hcx,hcy,hc1]
      rw [hc1] at gX
      refine (gX q5 (PH.Le.refl _)).mono ?_
      rintro v s1 ⟨rfl, hs1⟩
      simp -dsimp -implicitDefEqProofs (disch := first | omega | assumption | (simp only [Option.isSome_some,Qt0]; done) | (simp only [List.length_cons,List.length_nil,List.length_append,Int.toNat_natCast] <;> omega) | fail) only [Nat.reduceLT,Nat.reduceLeDiff,Nat.reduceEqDiff,↓reduceIte,Int.reduceLT,Int.reduceLE,Int.reduceToNat,Int.reduceEq,Int.reduceNe,Nat.reduceAdd,Int.reduceAdd,Int.reduceSub,Int.reduceMul,Nat.reduceMul,Qp0,Qp1,Ql0,Qe0,zAo,zAg,zAm,zAj,zAh,zAk,zAl,zAi,zAn,zAf,f0,f1,f7,f8,f10,zAa,zAb,hmx,hmy,hcx,hcy,hc1]
      refine ⟨hs1.sub, ?_⟩
      by_cases hg0 : 0 < genP qs
      rotate_left
      · have d1 : decide (0 < (genP qs : Int)) = false := decide_eq_false (by omega)
        have hbx : badX cy cx qs ps = true := by unfold badX; rw [hc1, decide_eq_false hg0]; rfl
        simp -dsimp -implicitDefEqProofs (disch := first | omega | assumption | (simp only [Option.isSome_some,Qt0]; done) | (simp only [List.length_cons,List.length_nil,List.length_append,Int.toNat_natCast] <;> omega) | fail) only [Nat.reduceLT,Nat.reduceLeDiff,Nat.reduceEqDiff,↓reduceIte,Int.reduceLT,Int.reduceLE,Int.reduceToNat,Int.reduceEq,Int.reduceNe,Nat.reduceAdd,Int.reduceAdd,Int.reduceSub,Int.reduceMul,Nat.reduceMul,Qp0,Qp1,Ql0,Qe0,zAo,zAg,zAm,zAj,zAh,zAk,zAl,zAi,zAn,zAf,f0,f1,f7,f8,f10,zAa,zAb,hmx,hmy,hcx,hcy,hc1,gt_iff_lt,d1]
        iterate 2
          refine ⟨hs1.sub, ?_⟩
          simp -dsimp -implicitDefEqProofs (disch := first | omega | assumption | (simp only [Option.isSome_some,Qt0]; done) | (simp only [List.length_cons,List.length_nil,List.length_append,Int.toNat_natCast] <;> omega) | fail) only [Nat.reduceLT,Nat.reduceLeDiff,Nat.reduceEqDiff,↓reduceIte,Int.reduceLT,Int.reduceLE,Int.reduceToNat,Int.reduceEq,Int.reduceNe,Nat.reduceAdd,Int.reduceAdd,Int.reduceSub,Int.reduceMul,Nat.reduceMul,Qp0,Qp1,Ql0,Qe0,zAo,zAg,zAm,zAj,zAh,zAk,zAl,zAi,zAn,zAf,f0,f1,f7,f8,f10,zAa,zAb,hmx,hmy,hcx,hcy,hc1,gt_iff_lt,d1]
        exact ⟨by trivial, hs1, by first | rw [hbx] | (have hb := hbx; rw [hc1] at hb; rw [hb]) | (have hb := hbx; rw [hc0] at hb; rw [hb]) | (have hb := hbx; simp only [hc1, hw1] at hb; simp only [hb]), by first | trivial | simp [f0], by first | trivial | simp [f1], by first | trivial | simp [f7], by first | trivial | simp [f8], by first | trivial | simp [f10]⟩
      have d1 : decide (0 < (genP qs : Int)) = true := decide_eq_true (by omega)
      by_cases hw0 : wx = false
      · have hbx : badX cy cx qs ps = true := by unfold badX; rw [hc1, S.hwx, hw0]; simp
        simp -dsimp -implicitDefEqProofs (disch := first | omega | assumption | (simp only [Option.isSome_some,Qt0]; done) | (simp only [List.length_cons,List.length_nil,List.length_append,Int.toNat_natCast] <;> omega) | fail) only [Nat.reduceLT,Nat.reduceLeDiff,Nat.reduceEqDiff,↓reduceIte,Int.reduceLT,Int.reduceLE,Int.reduceToNat,Int.reduceEq,Int.reduceNe,Nat.reduceAdd,Int.reduceAdd,Int.reduceSub,Int.reduceMul,Nat.reduceMul,Qp0,Qp1,Ql0,Qe0,zAo,zAg,zAm,zAj,zAh,zAk,zAl,zAi,zAn,zAf,f0,f1,f7,f8,f10,zAa,zAb,hmx,hmy,hcx,hcy,hc1,gt_iff_lt,d1,hw0]
        iterate 2
          refine ⟨hs1.sub, ?_⟩
          simp -dsimp -implicitDefEqProofs (disch := first | omega | assumption | (simp only [Option.isSome_some,Qt0]; done) | (simp only [List.length_cons,List.length_nil,List.length_append,Int.toNat_natCast] <;> omega) | fail) only [Nat.reduceLT,Nat.reduceLeDiff,Nat.reduceEqDiff,↓reduceIte,Int.reduceLT,Int.reduceLE,Int.reduceToNat,Int.reduceEq,Int.reduceNe,Nat.reduceAdd,Int.reduceAdd,Int.reduceSub,Int.reduceMul,Nat.reduceMul,Qp0,Qp1,Ql0,Qe0,zAo,zAg,zAm,zAj,zAh,zAk,zAl,zAi,zAn,zAf,f0,f1,f7,f8,f10,zAa,zAb,hmx,hmy,hcx,hcy,hc1,gt_iff_lt,d1,hw0]
        exact ⟨by trivial, hs1, by first | rw [hbx] | (have hb := hbx; rw [hc1] at hb; rw [hb]) | (have hb := hbx; rw [hc0] at hb; rw [hb]) | (have hb := hbx; simp only [hc1, hw1] at hb; simp only [hb]), by first | trivial | simp [f0], by first | trivial | simp [f1], by first | trivial | simp [f7], by first | trivial | simp [f8], by first | trivial | simp [f10]⟩
      have hw1 : wx = true := by cases h : wx <;> simp_all
      rw [hw1] at gY
      simp -dsimp -implicitDefEqProofs (disch := first | omega | assumption | (simp only [Option.isSome_some,Qt0]; done) | (simp only [List.length_cons,List.length_nil,List.length_append,Int.toNat_natCast] <;> omega) | fail) only [Nat.reduceLT,Nat.reduceLeDiff,Nat.reduceEqDiff,↓reduceIte,Int.reduceLT,Int.reduceLE,Int.reduceToNat,Int.reduceEq,Int.reduceNe,Nat.reduceAdd,Int.reduceAdd,Int.reduceSub,Int.reduceMul,Nat.reduceMul,Qp0,Qp1,Ql0,Qe0,zAo,zAg,zAm,zAj,zAh,zAk,zAl,zAi,zAn,zAf,f0,f1,f7,f8,f10,zAa,zAb,hmx,hmy,hcx,hcy,hc1,gt_iff_lt,d1,hw1]
      refine (gY s1 hs1).mono ?_
      rintro v s2 ⟨rfl, hs2⟩
      simp -dsimp -implicitDefEqProofs (disch := first | omega | assumption | (simp only [Option.isSome_some,Qt0]; done) | (simp only [List.length_cons,List.length_nil,List.length_append,Int.toNat_natCast] <;> omega) | fail) only [Nat.reduceLT,Nat.reduceLeDiff,Nat.reduceEqDiff,↓reduceIte,Int.reduceLT,Int.reduceLE,Int.reduceToNat,Int.reduceEq,Int.reduceNe,Nat.reduceAdd,Int.reduceAdd,Int.reduceSub,Int.reduceMul,Nat.reduceMul,Qp0,Qp1,Ql0,Qe0,zAo,zAg,zAm,zAj,zAh,zAk,zAl,zAi,zAn,zAf,f0,f1,f7,f8,f10,zAa,zAb,hmx,hmy,hcx,hcy,hc1,gt_iff_lt,d1,hw1]
      refine ⟨(hs1.trans hs2).sub, ?_⟩
      simp -dsimp -implicitDefEqProofs (disch := first | omega | assumption | (simp only [Option.isSome_some,Qt0]; done) | (simp only [List.length_cons,List.length_nil,List.length_append,Int.toNat_natCast] <;> omega) | fail) only [Nat.reduceLT,Nat.reduceLeDiff,Nat.reduceEqDiff,↓reduceIte,Int.reduceLT,Int.reduceLE,Int.reduceToNat,Int.reduceEq,Int.reduceNe,Nat.reduceAdd,Int.reduceAdd,Int.reduceSub,Int.reduceMul,Nat.reduceMul,Qp0,Qp1,Ql0,Qe0,zAo,zAg,zAm,zAj,zAh,zAk,zAl,zAi,zAn,zAf,f0,f1,f7,f8,f10,zAa,zAb,hmx,hmy,hcx,hcy,hc1,gt_iff_lt,d1,hw1]
      refine (gX s2 (hs1.trans hs2)).mono ?_
      rintro v s3 ⟨rfl, hs3⟩
      obtain ⟨cmp, hcmp⟩ : ∃ z, decide (genP qs < genP ps) = z := ⟨_, rfl⟩
      have d2 : decide ((genP qs : Int) < (genP ps : Int)) = cmp := by rw [← hcmp]; by_cases q : genP qs < genP ps <;> simp [q]
      have hbx : badX cy cx qs ps = !cmp := by unfold badX; rw [hc1, S.hwx, hw1, hcmp, decide_eq_true hg0]; simp
      simp -dsimp -implicitDefEqProofs (disch := first | omega | assumption | (simp only [Option.isSome_some,Qt0]; done) | (simp only [List.length_cons,List.length_nil,List.length_append,Int.toNat_natCast] <;> omega) | fail) only [Nat.reduceLT,Nat.reduceLeDiff,Nat.reduceEqDiff,↓reduceIte,Int.reduceLT,Int.reduceLE,Int.reduceToNat,Int.reduceEq,Int.reduceNe,Nat.reduceAdd,Int.reduceAdd,Int.reduceSub,Int.reduceMul,Nat.reduceMul,Qp0,Qp1,Ql0,Qe0,zAo,zAg,zAm,zAj,zAh,zAk,zAl,zAi,zAn,zAf,f0,f1,f7,f8,f10,zAa,zAb,hmx,hmy,hcx,hcy,hc1,gt_iff_lt,d1,hw1,d2]
      refine ⟨((hs1.trans hs2).trans hs3).sub, ?_⟩
      simp -dsimp -implicitDefEqProofs (disch := first | omega | assumption | (simp only [Option.isSome_some,Qt0]; done) | (simp only [List.length_cons,List.length_nil,List.length_append,Int.toNat_natCast] <;> omega) | fail) only [Nat.reduceLT,Nat.reduceLeDiff,Nat.reduceEqDiff,↓reduceIte,Int.reduceLT,Int.reduceLE,Int.reduceToNat,Int.reduceEq,Int.reduceNe,Nat.reduceAdd,Int.reduceAdd,Int.reduceSub,Int.reduceMul,Nat.reduceMul,Qp0,Qp1,Ql0,Qe0,zAo,zAg,zAm,zAj,zAh,zAk,zAl,zAi,zAn,zAf,f0,f1,f7,f8,f10,zAa,zAb,hmx,hmy,hcx,hcy,hc1,gt_iff_lt,d1,hw1,d2]
      exact ⟨by trivial, (hs1.trans hs2).trans hs3, by first | rw [hbx] | (have hb := hbx; rw [hc1] at hb; rw [hb]) | (have hb := hbx; rw [hc0] at hb; rw [hb]) | (have hb := hbx; simp only [hc1, hw1] at hb; simp only [hb]), by first | trivial | simp [f0], by first | trivial | simp [f1], by first | trivial | simp [f7], by first | trivial | simp [f8], by first | trivial | simp [f10]⟩
    subst he
    clear gX gY hcx hcy hmx hmy hDH
    have hl6 := hlq5.trans hlq6
    cases hb2 : badX cy cx qs ps with
    | true =>
      rw [hb2] at f63
      simp -dsimp -implicitDefEqProofs (disch := first | omega | assumption | (simp only [Option.isSome_some,Qt0]; done) | (simp only [List.length_cons,List.length_nil,List.length_append,Int.toNat_natCast] <;> omega) | fail) only [Nat.reduceLT,Nat.reduceLeDiff,Nat.reduceEqDiff,↓reduceIte,Int.reduceLT,Int.reduceLE,Int.reduceToNat,Int.reduceEq,Int.reduceNe,Nat.reduceAdd,Int.reduceAdd,Int.reduceSub,Int.reduceMul,Nat.reduceMul,Qp0,Qp1,Ql0,Qe0,zAt,f0,f1,f7,f8,f10,f63]
      refine (zB8 (some 6) (codeV 6) w0 q6 ⟨.code 6, rfl, rfl⟩).mono ?_
      rintro v hb ⟨e3, rfl, hec, hlb⟩
      simp -dsimp -implicitDefEqProofs (disch := first | omega | assumption | (simp only [Option.isSome_some,Qt0]; done) | (simp only [List.length_cons,List.length_nil,List.length_append,Int.toNat_natCast] <;> omega) | fail) only [Nat.reduceLT,Nat.reduceLeDiff,Nat.reduceEqDiff,↓reduceIte,Int.reduceLT,Int.reduceLE,Int.reduceToNat,Int.reduceEq,Int.reduceNe,Nat.reduceAdd,Int.reduceAdd,Int.reduceSub,Int.reduceMul,Nat.reduceMul,Qp0,Qp1,Ql0,Qe0,zAt]
      refine ⟨_, PH.Le.refl _, ?_⟩
      rw [hR]
      exact ⟨da, db, some 6, false, 0, [], .corrupt ps qs cx cy ⟨hua, hub⟩ S.kx S.ky (by unfold badC; rw [hb1, hb2]; rfl), e3, rfl, hec, ((S.hD.mono hl6).mono hlb).base S.le⟩
    | false =>
    rw [hb2] at f63
    have hbC : badC cx cy ps qs = false := by unfold badC; rw [hb1, hb2]; rfl
    have hD6 := S.hD.mono hl6
    have hmx := hD6.same _ _ S.hX
    have hmy := hD6.same _ _ S.hY
    have S6 : S0 w0 h0 q6 h.top a b da db xb yb hB ps Ax ca Bx ca2 cx wx qs Ay cb By cb2 cy wy := ⟨hD6, S.le, S.F, S.x0, S.y0, S.hX, S.hY, S.kx, S.ky, S.hwx, S.hwy, S.rx1, S.rx2, S.ry1, S.ry2, S.nx, S.ny, S.bx, S.ax, S.bya, S.byb, S.xy, S.ut⟩
    by_cases hw1 : wx = true
    · subst hw1
      simp -dsimp -implicitDefEqProofs (disch := first | omega | assumption | (simp only [Option.isSome_some,Qt0]; done) | (simp only [List.length_cons,List.length_nil,List.length_append,Int.toNat_natCast] <;> omega) | fail) only [Nat.reduceLT,Nat.reduceLeDiff,Nat.reduceEqDiff,↓reduceIte,Int.reduceLT,Int.reduceLE,Int.reduceToNat,Int.reduceEq,Int.reduceNe,Nat.reduceAdd,Int.reduceAdd,Int.reduceSub,Int.reduceMul,Nat.reduceMul,Qp0,Qp1,Ql0,Qe0,zAt,f0,f1,f7,f8,f10,f63,zAa,zAb,hmx,hmy]
      exact ⟨S6, hbC, .inl (by trivial), by first | trivial | simp [f0], by first | trivial | simp [f1], by first | trivial | simp [f7], by first | trivial | simp [f8], by first | trivial | simp [f10]⟩
    have hw1 : wx = false := by cases h : wx <;> simp_all
    by_cases hw2 : wy = true
    · subst hw1; subst hw2
      simp -dsimp -implicitDefEqProofs (disch := first | omega | assumption | (simp only [Option.isSome_some,Qt0]; done) | (simp only [List.length_cons,List.length_nil,List.length_append,Int.toNat_natCast] <;> omega) | fail) only [Nat.reduceLT,Nat.reduceLeDiff,Nat.reduceEqDiff,↓reduceIte,Int.reduceLT,Int.reduceLE,Int.reduceToNat,Int.reduceEq,Int.reduceNe,Nat.reduceAdd,Int.reduceAdd,Int.reduceSub,Int.reduceMul,Nat.reduceMul,Qp0,Qp1,Ql0,Qe0,zAt,f0,f1,f7,f8,f10,f63,zAa,zAb,hmx,hmy]
      exact ⟨S6, hbC, .inr (by trivial), by first | trivial | simp [f0], by first | trivial | simp [f1], by first | trivial | simp [f7], by first | trivial | simp [f8], by first | trivial | simp [f10]⟩
    have hw2 : wy = false := by cases h : wy <;> simp_all
    subst hw1; subst hw2
    simp -dsimp -implicitDefEqProofs (disch := first | omega | assumption | (simp only [Option.isSome_some,Qt0]; done) | (simp only [List.length_cons,List.length_nil,List.length_append,Int.toNat_natCast] <;> omega) | fail) only [Nat.reduceLT,Nat.reduceLeDiff,Nat.reduceEqDiff,↓reduceIte,Int.reduceLT,Int.reduceLE,Int.reduceToNat,Int.reduceEq,Int.reduceNe,Nat.reduceAdd,Int.reduceAdd,Int.reduceSub,Int.reduceMul,Nat.reduceMul,Qp0,Qp1,Ql0,Qe0,zAt,f0,f1,f7,f8,f10,f63,zAa,zAb,hmx,hmy]
    refine fun jb hjb => ?_
    have hj0 : JS hB (q6.new jb ⟨jL a b 0 false, 4⟩) jb a b da db 0 false := ⟨hB.gone (Nat.le_trans hD6.top hjb), hD6.new hjb⟩
    have hst := zGc (l := []) none 0 w0 _ hj0 gb (by omega) (Rv.nil _ _ _) (fun t ht => by cases ht) (by decide) (fun p hp => by
      rw [zEx]
      have k1 : Pt.Ok ⟨1, 0 + 1, 0, []⟩ := zBh (by omega) (by omega) (by omega) 1 (.inl rfl)
      have k3 : Pt.Ok ⟨3, 0 + 1, 0, []⟩ := zBh (by omega) (by omega) (by omega) 3 (.inr (.inl rfl))
      have h1 := zDo k1
      have h3 := zDo k3
      have h2 : flatP (recP (0 + 1) p []) = [] := rfl
      rw [h2]
      simp only [List.length_append, List.length_nil]; omega)
    unfold jL at hst
    have hc0 : ((0 : Nat) : Int) = 0 := rfl
    rw [hc0] at hst
    simp only [List.length_nil] at hst
    simp -dsimp -implicitDefEqProofs (disch := first | omega | assumption | (simp only [Option.isSome_some,Qt0]; done) | (simp only [List.length_cons,List.length_nil,List.length_append,Int.toNat_natCast] <;> omega) | fail) only [Nat.reduceLT,Nat.reduceLeDiff,Nat.reduceEqDiff,↓reduceIte,Int.reduceLT,Int.reduceLE,Int.reduceToNat,Int.reduceEq,Int.reduceNe,Nat.reduceAdd,Int.reduceAdd,Int.reduceSub,Int.reduceMul,Nat.reduceMul,Qp0,Qp1,Ql0,Qe0,zAt]
    refine hst.mono ?_
    rintro v q7 ⟨he, hs1, hs2⟩
    have hres := OpenR.anew ps qs cx cy ⟨hua, hub⟩ S.kx S.ky hbC S.hwx S.hwy
    have hle : PH.Le h0 hB := S.le
    generalize startM db 0 [] = r at *
    obtain ⟨d7, e7⟩ := r
    cases e7 with
    | some k =>
      have hj7 := hs1 (by simp)
      obtain ⟨t, y, rfl⟩ := he.held
      simp -dsimp -implicitDefEqProofs (disch := first | omega | assumption | (simp only [Option.isSome_some,Qt0]; done) | (simp only [List.length_cons,List.length_nil,List.length_append,Int.toNat_natCast] <;> omega) | fail) only [Nat.reduceLT,Nat.reduceLeDiff,Nat.reduceEqDiff,↓reduceIte,Int.reduceLT,Int.reduceLE,Int.reduceToNat,Int.reduceEq,Int.reduceNe,Nat.reduceAdd,Int.reduceAdd,Int.reduceSub,Int.reduceMul,Nat.reduceMul,Qp0,Qp1,Ql0,Qe0,zAt,f0,f1,f7]
      refine (zB8 (some k) _ w0 q7 he).mono ?_
      rintro v hb ⟨e3, rfl, hec, hlb⟩
      simp -dsimp -implicitDefEqProofs (disch := first | omega | assumption | (simp only [Option.isSome_some,Qt0]; done) | (simp only [List.length_cons,List.length_nil,List.length_append,Int.toNat_natCast] <;> omega) | fail) only [Nat.reduceLT,Nat.reduceLeDiff,Nat.reduceEqDiff,↓reduceIte,Int.reduceLT,Int.reduceLE,Int.reduceToNat,Int.reduceEq,Int.reduceNe,Nat.reduceAdd,Int.reduceAdd,Int.reduceSub,Int.reduceMul,Nat.reduceMul,Qp0,Qp1,Ql0,Qe0,zAt]
      refine ⟨_, PH.Le.refl _, ?_⟩
      rw [hR]
      exact ⟨da, d7, some k, true, 1, [], hres, e3, rfl, hec, ((hj7.mono hlb).d2.base (JS.low_le hB hj7.low _)).base hle⟩
    | none =>
      have hj7 := hs2 rfl
      obtain rfl : v = .nilIface := he
      simp -dsimp -implicitDefEqProofs (disch := first | omega | assumption | (simp only [Option.isSome_some,Qt0]; done) | (simp only [List.length_cons,List.length_nil,List.length_append,Int.toNat_natCast] <;> omega) | fail) only [Nat.reduceLT,Nat.reduceLeDiff,Nat.reduceEqDiff,↓reduceIte,Int.reduceLT,Int.reduceLE,Int.reduceToNat,Int.reduceEq,Int.reduceNe,Nat.reduceAdd,Int.reduceAdd,Int.reduceSub,Int.reduceMul,Nat.reduceMul,Qp0,Qp1,Ql0,Qe0,zAt]
      refine ⟨_, PH.Le.refl _, ?_⟩
      rw [hR]
      exact ⟨da, d7, none, true, 1, [], hres, jb, .slice none 0 0, hB, rfl, hle, by rw [if_pos rfl]; exact hj7, Own.nil _ _, fun x e => by cases e⟩
  obtain ⟨S, hbC, hw, f0, f1, f7, f8, f10⟩ := hM
  refine zC3 [(), ()] (fun f' q' => ∃ n o dn do_ ps A c B c2 cx xb jb hB, TK w0 h0 h R n o dn do_ ps xb jb hB A c B c2 cx ∧ D2 hB q' n dn o do_ ∧ f' 7 = some (.func (.func 24) #[] #[]) ∧ f' 8 = some (.pointer (some ⟨xb, 0, none⟩)) ∧ f' 14 = some (.pointer (some ⟨jb, 0, none⟩))) (by kernel_rfl) (by kernel_rfl) ?_ (fun f q hM => ?_)
  · have hmx := S.hD.same _ _ S.hX
    have hmy := S.hD.same _ _ S.hY
    have hcx : rdN w0 q ⟨xb, 0, none⟩ 5 = some [.slice Ax ps.length ca, .slice Bx ps.length ca2, .int .i64 (flatP ps).length, .bool cx, .bool wx] := by unfold rdN; simp only [hmx]; rfl
    have gX := zCs Ax Bx ca ps.length ca2 (flatP ps).length cx wx ps w0 q (S.rx1.more S.hD.le)
    unfold lkL at gX
    dsimp only [zDt, zDm, zDg, zDp]
    simp -dsimp -implicitDefEqProofs (disch := first | omega | assumption | (simp only [Option.isSome_some,Qt0]; done) | (simp only [List.length_cons,List.length_nil,List.length_append,Int.toNat_natCast] <;> omega) | fail) only [Nat.reduceLT,Nat.reduceLeDiff,Nat.reduceEqDiff,↓reduceIte,Int.reduceLT,Int.reduceLE,Int.reduceToNat,Int.reduceEq,Int.reduceNe,Nat.reduceAdd,Int.reduceAdd,Int.reduceSub,Int.reduceMul,Nat.reduceMul,Qp0,Qp1,Ql0,Qe0,zAt,f0,f1,f7,f8,f10,hcx]
    refine gX.mono ?_
    rintro v q7 ⟨rfl, hl7⟩
    simp -dsimp -implicitDefEqProofs (disch := first | omega | assumption | (simp only [Option.isSome_some,Qt0]; done) | (simp only [List.length_cons,List.length_nil,List.length_append,Int.toNat_natCast] <;> omega) | fail) only [Nat.reduceLT,Nat.reduceLeDiff,Nat.reduceEqDiff,↓reduceIte,Int.reduceLT,Int.reduceLE,Int.reduceToNat,Int.reduceEq,Int.reduceNe,Nat.reduceAdd,Int.reduceAdd,Int.reduceSub,Int.reduceMul,Nat.reduceMul,Qp0,Qp1,Ql0,Qe0,zAt,f0,f1,f7,f8,f10]
    refine fun jb hjb => ?_
    have hD7 := (S.hD.mono hl7).new (k := ⟨[.pointer (some ⟨a, 0, none⟩), .pointer (some ⟨b, 0, none⟩), .int .i64 (genP ps), .bool false], 4⟩) hjb
    have hlJ : PH.Le hB (hB.new jb ⟨[.pointer (some ⟨a, 0, none⟩), .pointer (some ⟨b, 0, none⟩), .int .i64 (genP ps), .bool false], 4⟩) := (PH.Le.refl hB).new _ _ (Nat.le_trans (S.hD.mono hl7).top hjb)
    have hmJ : (hB.new jb ⟨[.pointer (some ⟨a, 0, none⟩), .pointer (some ⟨b, 0, none⟩), .int .i64 (genP ps), .bool false], 4⟩).m jb = some ⟨[.pointer (some ⟨a, 0, none⟩), .pointer (some ⟨b, 0, none⟩), .int .i64 (genP ps), .bool false], 4⟩ := by rw [PH.new_m, if_pos rfl]
    have hjB : hB.top ≤ jb := Nat.le_trans (S.hD.mono hl7).top hjb
    clear gX hmx hmy hcx
    simp -dsimp -implicitDefEqProofs (disch := first | omega | assumption | (simp only [Option.isSome_some,Qt0]; done) | (simp only [List.length_cons,List.length_nil,List.length_append,Int.toNat_natCast] <;> omega) | fail) only [Nat.reduceLT,Nat.reduceLeDiff,Nat.reduceEqDiff,↓reduceIte,Int.reduceLT,Int.reduceLE,Int.reduceToNat,Int.reduceEq,Int.reduceNe,Nat.reduceAdd,Int.reduceAdd,Int.reduceSub,Int.reduceMul,Nat.reduceMul,Qp0,Qp1,Ql0,Qe0,zAt,f0,f1,f7,f8,f10]
    generalize hB.new jb ⟨[.pointer (some ⟨a, 0, none⟩), .pointer (some ⟨b, 0, none⟩), .int .i64 (genP ps), .bool false], 4⟩ = hBj at *
    generalize q7.new jb ⟨[.pointer (some ⟨a, 0, none⟩), .pointer (some ⟨b, 0, none⟩), .int .i64 (genP ps), .bool false], 4⟩ = q8 at *
    have hmx := hD7.same _ _ (hlJ.m _ _ S.hX)
    have hmy := hD7.same _ _ (hlJ.m _ _ S.hY)
    have hcx : rdN w0 q8 ⟨xb, 0, none⟩ 5 = some [.slice Ax ps.length ca, .slice Bx ps.length ca2, .int .i64 (flatP ps).length, .bool cx, .bool wx] := by unfold rdN; simp only [hmx]; rfl
    have hcy : rdN w0 q8 ⟨yb, 0, none⟩ 5 = some [.slice Ay qs.length cb, .slice By qs.length cb2, .int .i64 (flatP qs).length, .bool cy, .bool wy] := by unfold rdN; simp only [hmy]; rfl
    have hBq : PH.Le hB q8 := hlJ.trans hD7.le
    have gX := fun h2 (l : PH.Le q8 h2) => zCs Ax Bx ca ps.length ca2 (flatP ps).length cx wx ps w0 h2 ((S.rx1.more hBq).more l)
    have gY := fun h2 (l : PH.Le q8 h2) => zCs Ay By cb qs.length cb2 (flatP qs).length cy wy qs w0 h2 ((S.ry1.more hBq).more l)
    unfold lkL at gX gY
    refine zCo (Q := fun e f' h' => e = .normal ∧ PH.Le q8 h' ∧ f' 151 = some (.bool (swB cx cy ps qs)) ∧ f' 0 = some (.pointer (some ⟨a, 0, none⟩)) ∧ f' 1 = some (.pointer (some ⟨b, 0, none⟩)) ∧ f' 7 = some (.func (.func 24) #[] #[]) ∧ f' 8 = some (.pointer (some ⟨xb, 0, none⟩)) ∧ f' 10 = some (.pointer (some ⟨yb, 0, none⟩)) ∧ f' 14 = some (.pointer (some ⟨jb, 0, none⟩))) (zB0 (.take 0 (.take 1 (.take 2 (.take 3 (.take 4 (.take 5 (.take 6 (.take 7 (.take 9 (.take 8 (.take 10 (.take 11 (.take 12 (.take 13 .done)))))))))))))) q8 (by kernel_rfl) (by decide +kernel) (by kernel_rfl) (by kernel_rfl) (by kernel_rfl) (fun c f h hq => by cases hq.1) (PH.Le.refl _).sub ?_) (fun e f q9 ⟨he, hl9, f151, f0, f1, f7, f8, f10, f14⟩ => ?_)
    · by_cases hw1 : wx = false
      · have hsw : swB cx cy ps qs = true := by unfold swB; rw [S.hwx, hw1]; rfl
        simp -dsimp -implicitDefEqProofs (disch := first | omega | assumption | (simp only [Option.isSome_some,Qt0]; done) | (simp only [List.length_cons,List.length_nil,List.length_append,Int.toNat_natCast] <;> omega) | fail) only [Nat.reduceLT,Nat.reduceLeDiff,Nat.reduceEqDiff,↓reduceIte,Int.reduceLT,Int.reduceLE,Int.reduceToNat,Int.reduceEq,Int.reduceNe,Nat.reduceAdd,Int.reduceAdd,Int.reduceSub,Int.reduceMul,Nat.reduceMul,Qp0,Qp1,Ql0,Qe0,zAo,zAg,zAm,zAj,zAh,zAk,zAl,zAi,zAn,zAf,f0,f1,f7,f8,f10,zAa,zAb,hmx,hmy,hcx,hcy,hw1]
        iterate 2
          refine ⟨(PH.Le.refl _).sub, ?_⟩
          simp -dsimp -implicitDefEqProofs (disch := first | omega | assumption | (simp only [Option.isSome_some,Qt0]; done) | (simp only [List.length_cons,List.length_nil,List.length_append,Int.toNat_natCast] <;> omega) | fail) only [Nat.reduceLT,Nat.reduceLeDiff,Nat.reduceEqDiff,↓reduceIte,Int.reduceLT,Int.reduceLE,Int.reduceToNat,Int.reduceEq,Int.reduceNe,Nat.reduceAdd,Int.reduceAdd,Int.reduceSub,Int.reduceMul,Nat.reduceMul,Qp0,Qp1,Ql0,Qe0,zAo,zAg,zAm,zAj,zAh,zAk,zAl,zAi,zAn,zAf,f0,f1,f7,f8,f10,zAa,zAb,hmx,hmy,hcx,hcy,hw1]
        exact ⟨by trivial, PH.Le.refl _, by rw [hsw], by first | trivial | simp [f0], by first | trivial | simp [f1], by first | trivial | simp [f7], by first | trivial | simp [f8], by first | trivial | simp [f10], by first | trivial | simp [f14]⟩
      have hw1 : wx = true := by cases h : wx <;> simp_all
      by_cases hw2 : wy = false
      · have hsw : swB cx cy ps qs = false := by unfold swB; rw [S.hwx, hw1, S.hwy, hw2]; rfl
        simp -dsimp -implicitDefEqProofs (disch := first | omega | assumption | (simp only [Option.isSome_some,Qt0]; done) | (simp only [List.length_cons,List.length_nil,List.length_append,Int.toNat_natCast] <;> omega) | fail) only [Nat.reduceLT,Nat.reduceLeDiff,Nat.reduceEqDiff,↓reduceIte,Int.reduceLT,Int.reduceLE,Int.reduceToNat,Int.reduceEq,Int.reduceNe,Nat.reduceAdd,Int.reduceAdd,Int.reduceSub,Int.reduceMul,Nat.reduceMul,Qp0,Qp1,Ql0,Qe0,zAo,zAg,zAm,zAj,zAh,zAk,zAl,zAi,zAn,zAf,f0,f1,f7,f8,f10,zAa,zAb,hmx,hmy,hcx,hcy,hw1,hw2]
        iterate 2
          refine ⟨(PH.Le.refl _).sub, ?_⟩
          simp -dsimp -implicitDefEqProofs (disch := first | omega | assumption | (simp only [Option.isSome_some,Qt0]; done) | (simp only [List.length_cons,List.length_nil,List.length_append,Int.toNat_natCast] <;> omega) | fail) only [Nat.reduceLT,Nat.reduceLeDiff,Nat.reduceEqDiff,↓reduceIte,Int.reduceLT,Int.reduceLE,Int.reduceToNat,Int.reduceEq,Int.reduceNe,Nat.reduceAdd,Int.reduceAdd,Int.reduceSub,Int.reduceMul,Nat.reduceMul,Qp0,Qp1,Ql0,Qe0,zAo,zAg,zAm,zAj,zAh,zAk,zAl,zAi,zAn,zAf,f0,f1,f7,f8,f10,zAa,zAb,hmx,hmy,hcx,hcy,hw1,hw2]
        exact ⟨by trivial, PH.Le.refl _, by rw [hsw], by first | trivial | simp [f0], by first | trivial | simp [f1], by first | trivial | simp [f7], by first | trivial | simp [f8], by first | trivial | simp [f10], by first | trivial | simp [f14]⟩
      have hw2 : wy = true := by cases h : wy <;> simp_all
      rw [hw1] at gX
      rw [hw2] at gY
      simp -dsimp -implicitDefEqProofs (disch := first | omega | assumption | (simp only [Option.isSome_some,Qt0]; done) | (simp only [List.length_cons,List.length_nil,List.length_append,Int.toNat_natCast] <;> omega) | fail) only [Nat.reduceLT,Nat.reduceLeDiff,Nat.reduceEqDiff,↓reduceIte,Int.reduceLT,Int.reduceLE,Int.reduceToNat,Int.reduceEq,Int.reduceNe,Nat.reduceAdd,Int.reduceAdd,Int.reduceSub,Int.reduceMul,Nat.reduceMul,Qp0,Qp1,Ql0,Qe0,zAo,zAg,zAm,zAj,zAh,zAk,zAl,zAi,zAn,zAf,f0,f1,f7,f8,f10,zAa,zAb,hmx,hmy,hcx,hcy,hw1,hw2]
      refine (gY q8 (PH.Le.refl _)).mono ?_
      rintro v s1 ⟨rfl, hs1⟩
      simp -dsimp -implicitDefEqProofs (disch := first | omega | assumption | (simp only [Option.isSome_some,Qt0]; done) | (simp only [List.length_cons,List.length_nil,List.length_append,Int.toNat_natCast] <;> omega) | fail) only [Nat.reduceLT,Nat.reduceLeDiff,Nat.reduceEqDiff,↓reduceIte,Int.reduceLT,Int.reduceLE,Int.reduceToNat,Int.reduceEq,Int.reduceNe,Nat.reduceAdd,Int.reduceAdd,Int.reduceSub,Int.reduceMul,Nat.reduceMul,Qp0,Qp1,Ql0,Qe0,zAo,zAg,zAm,zAj,zAh,zAk,zAl,zAi,zAn,zAf,f0,f1,f7,f8,f10,zAa,zAb,hmx,hmy,hcx,hcy,hw1,hw2]
      refine ⟨hs1.sub, ?_⟩
      simp -dsimp -implicitDefEqProofs (disch := first | omega | assumption | (simp only [Option.isSome_some,Qt0]; done) | (simp only [List.length_cons,List.length_nil,List.length_append,Int.toNat_natCast] <;> omega) | fail) only [Nat.reduceLT,Nat.reduceLeDiff,Nat.reduceEqDiff,↓reduceIte,Int.reduceLT,Int.reduceLE,Int.reduceToNat,Int.reduceEq,Int.reduceNe,Nat.reduceAdd,Int.reduceAdd,Int.reduceSub,Int.reduceMul,Nat.reduceMul,Qp0,Qp1,Ql0,Qe0,zAo,zAg,zAm,zAj,zAh,zAk,zAl,zAi,zAn,zAf,f0,f1,f7,f8,f10,zAa,zAb,hmx,hmy,hcx,hcy,hw1,hw2]
      refine (gX s1 hs1).mono ?_
      rintro v s2 ⟨rfl, hs2⟩
      obtain ⟨cmp, hcmp⟩ : ∃ z, decide (genP ps < genP qs) = z := ⟨_, rfl⟩
      have d2 : decide ((genP ps : Int) < (genP qs : Int)) = cmp := by rw [← hcmp]; by_cases q : genP ps < genP qs <;> simp [q]
      have hsw : swB cx cy ps qs = cmp := by unfold swB; rw [S.hwx, hw1, S.hwy, hw2, hcmp]; rfl
      simp -dsimp -implicitDefEqProofs (disch := first | omega | assumption | (simp only [Option.isSome_some,Qt0]; done) | (simp only [List.length_cons,List.length_nil,List.length_append,Int.toNat_natCast] <;> omega) | fail) only [Nat.reduceLT,Nat.reduceLeDiff,Nat.reduceEqDiff,↓reduceIte,Int.reduceLT,Int.reduceLE,Int.reduceToNat,Int.reduceEq,Int.reduceNe,Nat.reduceAdd,Int.reduceAdd,Int.reduceSub,Int.reduceMul,Nat.reduceMul,Qp0,Qp1,Ql0,Qe0,zAo,zAg,zAm,zAj,zAh,zAk,zAl,zAi,zAn,zAf,f0,f1,f7,f8,f10,zAa,zAb,hmx,hmy,hcx,hcy,hw1,hw2,gt_iff_lt,d2]
      refine ⟨(hs1.trans hs2).sub, ?_⟩
      simp -dsimp -implicitDefEqProofs (disch := first | omega | assumption | (simp only [Option.isSome_some,Qt0]; done) | (simp only [List.length_cons,List.length_nil,List.length_append,Int.toNat_natCast] <;> omega) | fail) only [Nat.reduceLT,Nat.reduceLeDiff,Nat.reduceEqDiff,↓reduceIte,Int.reduceLT,Int.reduceLE,Int.reduceToNat,Int.reduceEq,Int.reduceNe,Nat.reduceAdd,Int.reduceAdd,Int.reduceSub,Int.reduceMul,Nat.reduceMul,Qp0,Qp1,Ql0,Qe0,zAo,zAg,zAm,zAj,zAh,zAk,zAl,zAi,zAn,zAf,f0,f1,f7,f8,f10,zAa,zAb,hmx,hmy,hcx,hcy,hw1,hw2,gt_iff_lt,d2]
      exact ⟨by trivial, hs1.trans hs2, by rw [hsw], by first | trivial | simp [f0], by first | trivial | simp [f1], by first | trivial | simp [f7], by first | trivial | simp [f8], by first | trivial | simp [f10], by first | trivial | simp [f14]⟩
    subst he
    clear gX hcx hcy hmx hmy
    have hD9 := hD7.mono hl9
    have hxlt := hB.lt _ _ S.hX
    have hjx : jb ≠ xb := by omega
    cases hsw : swB cx cy ps qs with
    | false =>
      rw [hsw] at f151
      have hwp : wh cx ps = true := by
        cases h : wh cx ps with
        | true => rfl
        | false => unfold swB at hsw; rw [h] at hsw; simp at hsw
      have hw1 : wx = true := by rw [← S.hwx]; exact hwp
      have hord : ordB ps = true := by unfold wh at hwp; simp only [Bool.and_eq_true] at hwp; exact hwp.2
      have hpn : ps ≠ [] := fun e => by rw [e] at hord; cases hord
      simp -dsimp -implicitDefEqProofs (disch := first | omega | assumption | (simp only [Option.isSome_some,Qt0]; done) | (simp only [List.length_cons,List.length_nil,List.length_append,Int.toNat_natCast] <;> omega) | fail) only [Nat.reduceLT,Nat.reduceLeDiff,Nat.reduceEqDiff,↓reduceIte,Int.reduceLT,Int.reduceLE,Int.reduceToNat,Int.reduceEq,Int.reduceNe,Nat.reduceAdd,Int.reduceAdd,Int.reduceSub,Int.reduceMul,Nat.reduceMul,Qp0,Qp1,Ql0,Qe0,zAt,f0,f1,f7,f8,f10,f14,f151]
      refine ⟨a, b, da, db, ps, Ax, ca, Bx, ca2, cx, xb, jb, hBj, ⟨S.le.trans hlJ, by have := S.F; have := hlJ.top; omega, by have := S.le.top; omega, S.x0, by rw [← hw1]; exact hlJ.m _ _ S.hX, hmJ, S.rx1.more hlJ, S.rx2.more hlJ, S.bx hpn, S.ax hpn, hjx, S.nx.1, hua, ga, S.kx.1, hord, fun d e zs v h' ht hW => ?_⟩, hD9, by first | trivial | simp [f7], by first | trivial | simp [f8], by first | trivial | simp [f14]⟩
      rw [hR]
      refine ⟨d, db, e, false, _, _, .left ps qs cx cy ⟨hua, hub⟩ S.kx S.ky hbC hwp hsw ht, ?_⟩
      cases e with
      | some k => exact hW
      | none =>
        obtain ⟨j, V, h1, r1, r2, r3, r4, r5⟩ := hW
        exact ⟨j, V, h1, r1, r2, by rw [if_neg (by decide)]; exact r3, r4, r5⟩
    | true =>
      rw [hsw] at f151
      have hwp : wh cy qs = true := by
        cases h : wh cy qs with
        | true => rfl
        | false =>
          exfalso
          unfold swB at hsw
          rw [h, S.hwx] at hsw
          have h2 := S.hwy
          rw [h] at h2
          rcases hw with hw | hw
          · rw [hw] at hsw; simp at hsw
          · rw [hw] at h2; cases h2
      have hw2 : wy = true := by rw [← S.hwy]; exact hwp
      have hord : ordB qs = true := by unfold wh at hwp; simp only [Bool.and_eq_true] at hwp; exact hwp.2
      have hmy : (q9.del xb).m yb = some ⟨[.slice Ay qs.length cb, .slice By qs.length cb2, .int .i64 (flatP qs).length, .bool cy, .bool wy], 5⟩ := by
        rw [PH.del_m, if_neg S.xy.symm]
        exact hD9.same _ _ (hlJ.m _ _ S.hY)
      have hcy : rdN w0 (q9.del xb) ⟨yb, 0, none⟩ 5 = some [.slice Ay qs.length cb, .slice By qs.length cb2, .int .i64 (flatP qs).length, .bool cy, .bool wy] := by unfold rdN; simp only [hmy]; rfl
      have hoy := zC7 [.slice Ay qs.length cb, .slice By qs.length cb2, .int .i64 (flatP qs).length, .bool cy, .bool wy] rfl
      have hmx9 := hD9.same _ _ (hlJ.m _ _ S.hX)
      have hfinR : ∀ d e zs v h', TailR db qs (genP qs) d e zs → OpenW h0 h h' b a v d da e (genP qs) (recsP zs) → R v h' := fun d e zs v h' ht hW => by
        rw [hR]
        refine ⟨da, d, e, true, _, _, .right ps qs cx cy ⟨hua, hub⟩ S.kx S.ky hbC hwp hsw ht, ?_⟩
        cases e with
        | some k =>
          obtain ⟨e3, r1, r2, r3⟩ := hW
          exact ⟨e3, r1, r2, r3.symm⟩
        | none =>
          obtain ⟨j, V, h1, r1, r2, r3, r4, r5⟩ := hW
          exact ⟨j, V, h1, r1, r2, by rw [if_pos rfl]; exact r3, r4, r5⟩
      have hTK : ∀ (jb2 : Nat) (hB2 : PH), hBj.top ≤ jb2 → hBj.top ≤ hB2.top → hB2.m jb2 = some ⟨[.pointer (some ⟨b, 0, none⟩), .pointer (some ⟨a, 0, none⟩), .int .i64 (genP qs), .bool false], 4⟩ → hB2.m xb = some ⟨[.slice Ay qs.length cb, .slice By qs.length cb2, .int .i64 (flatP qs).length, .bool cy, .bool wy], 5⟩ → (∀ x k, x ≠ xb → hBj.m x = some k → hB2.m x = some k) → TK w0 h0 h R b a db da qs xb jb2 hB2 Ay cb By cb2 cy := fun jb2 hB2 h1 h2 h3 h4 h5 => by
        have hk : ∀ x k, x ≠ xb → hB.m x = some k → hB2.m x = some k := fun x k r1 r2 => h5 x k r1 (hlJ.m _ _ r2)
        have hjt := hlJ.top
        exact ⟨⟨Nat.le_trans S.le.top (Nat.le_trans hjt h2), fun x k e => hk x k (fun r => by have := h0.lt _ _ e; have := S.x0; omega) (S.le.m _ _ e)⟩, by have := S.F; omega, by have := S.le.top; omega, S.x0, by rw [← hw2]; exact h4, h3, S.ry1.at fun y e k r => hk _ k (S.bya y e) r, S.ry2.at fun y e k r => hk _ k (S.byb y e) r, S.byb, S.bya, by omega, S.ny.1, hub, gb, S.ky.1, hord, hfinR⟩
      simp -dsimp -implicitDefEqProofs (disch := first | omega | assumption | (simp only [Option.isSome_some,Qt0]; done) | (simp only [List.length_cons,List.length_nil,List.length_append,Int.toNat_natCast] <;> omega) | fail) only [Nat.reduceLT,Nat.reduceLeDiff,Nat.reduceEqDiff,↓reduceIte,Int.reduceLT,Int.reduceLE,Int.reduceToNat,Int.reduceEq,Int.reduceNe,Nat.reduceAdd,Int.reduceAdd,Int.reduceSub,Int.reduceMul,Nat.reduceMul,Qp0,Qp1,Ql0,Qe0,zAt,f0,f1,f7,f8,f10,f14,f151]
      refine zCo (Q := fun e f' q' => e = .normal ∧ ∃ n o dn do_ ps A c B c2 cx xb jb hB, TK w0 h0 h R n o dn do_ ps xb jb hB A c B c2 cx ∧ D2 hB q' n dn o do_ ∧ f' 7 = some (.func (.func 24) #[] #[]) ∧ f' 8 = some (.pointer (some ⟨xb, 0, none⟩)) ∧ f' 14 = some (.pointer (some ⟨jb, 0, none⟩))) (zB0 (.take 0 (.take 1 (.take 2 (.take 3 (.take 4 (.take 5 (.both 6 (.cut [7, 8]) 7 (.take 6 (.take 8 .done))))))))) (q9.del xb) (by kernel_rfl) (by decide +kernel) (by kernel_rfl) (by kernel_rfl) (by kernel_rfl) (fun c f h hq => by cases hq.1) ((PH.Le.refl q9).delS xb).sub ?_) (fun e f q' ⟨he, hm⟩ => ?_)
      · simp -dsimp -implicitDefEqProofs (disch := first | omega | assumption | (simp only [Option.isSome_some,Qt0]; done) | (simp only [List.length_cons,List.length_nil,List.length_append,Int.toNat_natCast] <;> omega) | fail) only [Nat.reduceLT,Nat.reduceLeDiff,Nat.reduceEqDiff,↓reduceIte,Int.reduceLT,Int.reduceLE,Int.reduceToNat,Int.reduceEq,Int.reduceNe,Nat.reduceAdd,Int.reduceAdd,Int.reduceSub,Int.reduceMul,Nat.reduceMul,Qp0,Qp1,Ql0,Qe0,zAo,zAg,zAm,zAj,zAh,zAk,zAl,zAi,zAn,zAf,f0,f1,f7,f8,f10,f14,hcy]
        refine (gY q9 hl9).mono ?_
        rintro v s1 ⟨rfl, hs1⟩
        simp -dsimp -implicitDefEqProofs (disch := first | omega | assumption | (simp only [Option.isSome_some,Qt0]; done) | (simp only [List.length_cons,List.length_nil,List.length_append,Int.toNat_natCast] <;> omega) | fail) only [Nat.reduceLT,Nat.reduceLeDiff,Nat.reduceEqDiff,↓reduceIte,Int.reduceLT,Int.reduceLE,Int.reduceToNat,Int.reduceEq,Int.reduceNe,Nat.reduceAdd,Int.reduceAdd,Int.reduceSub,Int.reduceMul,Nat.reduceMul,Qp0,Qp1,Ql0,Qe0,zAo,zAg,zAm,zAj,zAh,zAk,zAl,zAi,zAn,zAf,f0,f1,f7,f8,f10,f14,hcy]
        refine ⟨(hs1.delS xb).sub, ?_⟩
        have hDs := hD9.mono hs1
        have hl9s := PH.Le.refl q9
        have hmxs := hs1.m _ _ hmx9
        simp -dsimp -implicitDefEqProofs (disch := first | omega | assumption | (simp only [Option.isSome_some,Qt0]; done) | (simp only [List.length_cons,List.length_nil,List.length_append,Int.toNat_natCast] <;> omega) | fail) only [Nat.reduceLT,Nat.reduceLeDiff,Nat.reduceEqDiff,↓reduceIte,Int.reduceLT,Int.reduceLE,Int.reduceToNat,Int.reduceEq,Int.reduceNe,Nat.reduceAdd,Int.reduceAdd,Int.reduceSub,Int.reduceMul,Nat.reduceMul,Qp0,Qp1,Ql0,Qe0,zAo,zAg,zAm,zAj,zAh,zAk,zAl,zAi,zAn,zAf,f0,f1,f7,f8,f10,f14,hcy]
        refine ⟨?_, ?_⟩
        · refine fun j2 hj2 => ?_
          have hDn := hDs.new (k := ⟨[.pointer (some ⟨b, 0, none⟩), .pointer (some ⟨a, 0, none⟩), .int .i64 (genP qs), .bool false], 4⟩) hj2
          have hjt : hBj.top ≤ j2 := Nat.le_trans hDs.top hj2
          have hxj : xb ≠ j2 := by have := hlJ.top; omega
          have hXn : (hBj.new j2 ⟨[.pointer (some ⟨b, 0, none⟩), .pointer (some ⟨a, 0, none⟩), .int .i64 (genP qs), .bool false], 4⟩).m xb = some ⟨[.slice Ax ps.length ca, .slice Bx ps.length ca2, .int .i64 (flatP ps).length, .bool cx, .bool wx], 5⟩ := by rw [PH.new_m, if_neg hxj]; exact hlJ.m _ _ S.hX
          have hDx := hDn.setIn hXn ⟨[.slice Ay qs.length cb, .slice By qs.length cb2, .int .i64 (flatP qs).length, .bool cy, .bool wy], 5⟩
          have hmxn : (s1.new j2 ⟨[.pointer (some ⟨b, 0, none⟩), .pointer (some ⟨a, 0, none⟩), .int .i64 (genP qs), .bool false], 4⟩).m xb = some ⟨[.slice Ax ps.length ca, .slice Bx ps.length ca2, .int .i64 (flatP ps).length, .bool cx, .bool wx], 5⟩ := by rw [PH.new_m, if_neg hxj]; exact hmxs
          simp -dsimp -implicitDefEqProofs (disch := first | omega | assumption | (simp only [Option.isSome_some,Qt0]; done) | (simp only [List.length_cons,List.length_nil,List.length_append,Int.toNat_natCast] <;> omega) | fail) only [Nat.reduceLT,Nat.reduceLeDiff,Nat.reduceEqDiff,↓reduceIte,Int.reduceLT,Int.reduceLE,Int.reduceToNat,Int.reduceEq,Int.reduceNe,Nat.reduceAdd,Int.reduceAdd,Int.reduceSub,Int.reduceMul,Nat.reduceMul,Qp0,Qp1,Ql0,Qe0,zAo,zAg,zAm,zAj,zAh,zAk,zAl,zAi,zAn,zAf,f0,f1,f7,f8,f10,f14,zAa,zAb]
          refine ⟨((hs1.delS xb).trans ((PH.Le.refl s1).new _ _ hj2)).sub, ?_⟩
          simp -dsimp -implicitDefEqProofs (disch := first | omega | assumption | (simp only [Option.isSome_some,Qt0]; done) | (simp only [List.length_cons,List.length_nil,List.length_append,Int.toNat_natCast] <;> omega) | fail) only [Nat.reduceLT,Nat.reduceLeDiff,Nat.reduceEqDiff,↓reduceIte,Int.reduceLT,Int.reduceLE,Int.reduceToNat,Int.reduceEq,Int.reduceNe,Nat.reduceAdd,Int.reduceAdd,Int.reduceSub,Int.reduceMul,Nat.reduceMul,Qp0,Qp1,Ql0,Qe0,zAo,zAg,zAm,zAj,zAh,zAk,zAl,zAi,zAn,zAf,f0,f1,f7,f8,f10,f14,zAa,zAb,hmxs,hxj,List.set_cons_zero,List.set_cons_succ,List.take_zero,List.drop_succ_cons,List.drop_zero,List.drop_nil,List.nil_append,List.append_nil,List.take_succ_cons,ite_true,PH.new_new]
          refine ⟨by trivial, b, a, db, da, qs, Ay, cb, By, cb2, cy, xb, j2, _, hTK j2 _ hjt ?_ ?_ ?_ ?_, hDx.symm, by first | trivial | simp [f7], by first | trivial | simp [f8], by first | trivial | simp⟩
          · simp only [PH.new_top]; omega
          · rw [PH.new_m, if_neg (Ne.symm hxj), PH.new_m, if_pos rfl]
          · rw [PH.new_m, if_pos rfl]
          · intro x k r1 r2
            have := hBj.lt _ _ r2
            rw [PH.new_m, if_neg r1, PH.new_m, if_neg (by omega)]; exact r2
        · simp -dsimp -implicitDefEqProofs (disch := first | omega | assumption | (simp only [Option.isSome_some,Qt0]; done) | (simp only [List.length_cons,List.length_nil,List.length_append,Int.toNat_natCast] <;> omega) | fail) only [Nat.reduceLT,Nat.reduceLeDiff,Nat.reduceEqDiff,↓reduceIte,Int.reduceLT,Int.reduceLE,Int.reduceToNat,Int.reduceEq,Int.reduceNe,Nat.reduceAdd,Int.reduceAdd,Int.reduceSub,Int.reduceMul,Nat.reduceMul,Qp0,Qp1,Ql0,Qe0,zAo,zAg,zAm,zAj,zAh,zAk,zAl,zAi,zAn,zAf,f0,f1,f7,f8,f10,f14,zAa,zAb,hmxs,List.set_cons_zero,List.set_cons_succ,List.take_zero,List.drop_succ_cons,List.drop_zero,List.drop_nil,List.nil_append,List.append_nil,List.take_succ_cons,ite_true,PH.new_new]
          refine ⟨((hl9s.trans hs1).delN xb _).sub, ?_⟩
          have hXn := hlJ.m _ _ S.hX
          have hDx := hDs.setIn hXn ⟨[.slice Ay qs.length cb, .slice By qs.length cb2, .int .i64 (flatP qs).length, .bool cy, .bool wy], 5⟩
          simp -dsimp -implicitDefEqProofs (disch := first | omega | assumption | (simp only [Option.isSome_some,Qt0]; done) | (simp only [List.length_cons,List.length_nil,List.length_append,Int.toNat_natCast] <;> omega) | fail) only [Nat.reduceLT,Nat.reduceLeDiff,Nat.reduceEqDiff,↓reduceIte,Int.reduceLT,Int.reduceLE,Int.reduceToNat,Int.reduceEq,Int.reduceNe,Nat.reduceAdd,Int.reduceAdd,Int.reduceSub,Int.reduceMul,Nat.reduceMul,Qp0,Qp1,Ql0,Qe0,zAo,zAg,zAm,zAj,zAh,zAk,zAl,zAi,zAn,zAf,f0,f1,f7,f8,f10,f14,zAa,zAb]
          refine fun j2 hj2 => ?_
          have hDn := hDx.new (k := ⟨[.pointer (some ⟨b, 0, none⟩), .pointer (some ⟨a, 0, none⟩), .int .i64 (genP qs), .bool false], 4⟩) hj2
          have hjt0 := Nat.le_trans hDx.top hj2
          have hjt : hBj.top ≤ j2 := by simp only [PH.new_top] at hjt0; omega
          have hxj : xb ≠ j2 := by have := hlJ.top; omega
          simp -dsimp -implicitDefEqProofs (disch := first | omega | assumption | (simp only [Option.isSome_some,Qt0]; done) | (simp only [List.length_cons,List.length_nil,List.length_append,Int.toNat_natCast] <;> omega) | fail) only [Nat.reduceLT,Nat.reduceLeDiff,Nat.reduceEqDiff,↓reduceIte,Int.reduceLT,Int.reduceLE,Int.reduceToNat,Int.reduceEq,Int.reduceNe,Nat.reduceAdd,Int.reduceAdd,Int.reduceSub,Int.reduceMul,Nat.reduceMul,Qp0,Qp1,Ql0,Qe0,zAo,zAg,zAm,zAj,zAh,zAk,zAl,zAi,zAn,zAf,f0,f1,f7,f8,f10,f14,zAa,zAb]
          refine ⟨((hl9s.trans hs1).delN xb _).trans ((PH.Le.refl _).new _ _ hj2) |>.sub, ?_⟩
          simp -dsimp -implicitDefEqProofs (disch := first | omega | assumption | (simp only [Option.isSome_some,Qt0]; done) | (simp only [List.length_cons,List.length_nil,List.length_append,Int.toNat_natCast] <;> omega) | fail) only [Nat.reduceLT,Nat.reduceLeDiff,Nat.reduceEqDiff,↓reduceIte,Int.reduceLT,Int.reduceLE,Int.reduceToNat,Int.reduceEq,Int.reduceNe,Nat.reduceAdd,Int.reduceAdd,Int.reduceSub,Int.reduceMul,Nat.reduceMul,Qp0,Qp1,Ql0,Qe0,zAo,zAg,zAm,zAj,zAh,zAk,zAl,zAi,zAn,zAf,f0,f1,f7,f8,f10,f14,zAa,zAb,List.set_cons_zero,List.set_cons_succ,List.take_zero,List.drop_succ_cons,List.drop_zero,List.drop_nil,List.nil_append,List.append_nil,List.take_succ_cons,ite_true,PH.new_new]
          refine ⟨by trivial, b, a, db, da, qs, Ay, cb, By, cb2, cy, xb, j2, _, hTK j2 _ hjt ?_ ?_ ?_ ?_, hDn.symm, by first | trivial | simp [f7], by first | trivial | simp [f8], by first | trivial | simp⟩
          · simp only [PH.new_top]; omega
          · rw [PH.new_m, if_pos rfl]
          · rw [PH.new_m, if_neg hxj, PH.new_m, if_pos rfl]
          · intro x k r1 r2
            have := hBj.lt _ _ r2
            rw [PH.new_m, if_neg (by omega), PH.new_m, if_neg r1]; exact r2
      · subst he
        simp -dsimp -implicitDefEqProofs (disch := first | omega | assumption | (simp only [Option.isSome_some,Qt0]; done) | (simp only [List.length_cons,List.length_nil,List.length_append,Int.toNat_natCast] <;> omega) | fail) only [Nat.reduceLT,Nat.reduceLeDiff,Nat.reduceEqDiff,↓reduceIte,Int.reduceLT,Int.reduceLE,Int.reduceToNat,Int.reduceEq,Int.reduceNe,Nat.reduceAdd,Int.reduceAdd,Int.reduceSub,Int.reduceMul,Nat.reduceMul,Qp0,Qp1,Ql0,Qe0,zAt]
        exact hm
  obtain ⟨n, o, dn, do_, ps, A, c, B, c2, cx, xb, jb, hB, T, hD, f7, f8, f14⟩ := hM
  have hpn : ps ≠ [] := fun e => by have := T.ord; rw [e] at this; cases this
  refine zC3 [()] (fun f' q' => ∃ n o dn do_ ps A c B c2 cx xb jb hB, TK w0 h0 h R n o dn do_ ps xb jb hB A c B c2 cx ∧ (cutEnd dn ps).2 = none ∧ Good (cutEnd dn ps).1 ∧ D2 hB q' n (cutEnd dn ps).1 o do_ ∧ f' 7 = some (.func (.func 24) #[] #[]) ∧ f' 8 = some (.pointer (some ⟨xb, 0, none⟩)) ∧ f' 14 = some (.pointer (some ⟨jb, 0, none⟩))) (by kernel_rfl) (by kernel_rfl) ?_ (fun f q hM => ?_)
  · have hxq := hD.same _ _ T.hX
    have hjq := hD.same _ _ T.hJ
    unfold jL at hjq
    obtain ⟨h1, hdN, _, _⟩ := hD.use
    have hL := len_any h1 n dn w0 q hdN
    rw [if_neg (by rw [T.up]; decide)] at hL
    dsimp only [zDt, zDm, zDg, zDp]
    simp -dsimp -implicitDefEqProofs (disch := first | omega | assumption | (simp only [Option.isSome_some,Qt0]; done) | (simp only [List.length_cons,List.length_nil,List.length_append,Int.toNat_natCast] <;> omega) | fail) only [Nat.reduceLT,Nat.reduceLeDiff,Nat.reduceEqDiff,↓reduceIte,Int.reduceLT,Int.reduceLE,Int.reduceToNat,Int.reduceEq,Int.reduceNe,Nat.reduceAdd,Int.reduceAdd,Int.reduceSub,Int.reduceMul,Nat.reduceMul,Qp0,Qp1,Ql0,Qe0,zAt,f7,f8,f14]
    refine zB0 (.take 0 (.take 1 (.take 2 (.take 3 (.take 4 (.take 5 (.take 6 (.take 7 .done)))))))) q (by kernel_rfl) (by decide +kernel) (by kernel_rfl) (by kernel_rfl) (by kernel_rfl) (fun c f h hq => by simp only [zAy, zAv, zAw, zAu, zAx] at hq) (PH.Le.refl _).sub ?_
    simp -dsimp -implicitDefEqProofs (disch := first | omega | assumption | (simp only [Option.isSome_some,Qt0]; done) | (simp only [List.length_cons,List.length_nil,List.length_append,Int.toNat_natCast] <;> omega) | fail) only [Nat.reduceLT,Nat.reduceLeDiff,Nat.reduceEqDiff,↓reduceIte,Int.reduceLT,Int.reduceLE,Int.reduceToNat,Int.reduceEq,Int.reduceNe,Nat.reduceAdd,Int.reduceAdd,Int.reduceSub,Int.reduceMul,Nat.reduceMul,Qp0,Qp1,Ql0,Qe0,zAo,zAg,zAm,zAj,zAh,zAk,zAl,zAi,zAn,zAf,f7,f8,f14,zAa,zAb,hxq,hjq]
    refine hL.mono ?_
    rintro v hz ⟨rfl, hz'⟩
    obtain rfl := hz'.symm
    simp -dsimp -implicitDefEqProofs (disch := first | omega | assumption | (simp only [Option.isSome_some,Qt0]; done) | (simp only [List.length_cons,List.length_nil,List.length_append,Int.toNat_natCast] <;> omega) | fail) only [Nat.reduceLT,Nat.reduceLeDiff,Nat.reduceEqDiff,↓reduceIte,Int.reduceLT,Int.reduceLE,Int.reduceToNat,Int.reduceEq,Int.reduceNe,Nat.reduceAdd,Int.reduceAdd,Int.reduceSub,Int.reduceMul,Nat.reduceMul,Qp0,Qp1,Ql0,Qe0,zAo,zAg,zAm,zAj,zAh,zAk,zAl,zAi,zAn,zAf,f7,f8,f14,zAa,zAb,hxq,hjq]
    refine ⟨(PH.Le.refl _).sub, ?_⟩
    by_cases hlt : (flatP ps).length < dn.l.length
    · have d1 : decide (((flatP ps).length : Int) < (dn.l.length : Int)) = true := decide_eq_true (by omega)
      have hce : cutEnd dn ps = endK (dn.cut (flatP ps).length) := by unfold cutEnd; rw [if_pos hlt]
      simp -dsimp -implicitDefEqProofs (disch := first | omega | assumption | (simp only [Option.isSome_some,Qt0]; done) | (simp only [List.length_cons,List.length_nil,List.length_append,Int.toNat_natCast] <;> omega) | fail) only [Nat.reduceLT,Nat.reduceLeDiff,Nat.reduceEqDiff,↓reduceIte,Int.reduceLT,Int.reduceLE,Int.reduceToNat,Int.reduceEq,Int.reduceNe,Nat.reduceAdd,Int.reduceAdd,Int.reduceSub,Int.reduceMul,Nat.reduceMul,Qp0,Qp1,Ql0,Qe0,zAo,zAg,zAm,zAj,zAh,zAk,zAl,zAi,zAn,zAf,f7,f8,f14,d1,zAt]
      refine zB0 (.take 0 (.take 1 (.take 2 (.take 3 (.take 4 (.take 5 (.cut [6, 7]))))))) q (by kernel_rfl) (by decide +kernel) (by kernel_rfl) (by kernel_rfl) (by kernel_rfl) (fun c f h hq => by simp only [zAy, zAv, zAw, zAu, zAx] at hq) (PH.Le.refl _).sub ?_
      simp -dsimp -implicitDefEqProofs (disch := first | omega | assumption | (simp only [Option.isSome_some,Qt0]; done) | (simp only [List.length_cons,List.length_nil,List.length_append,Int.toNat_natCast] <;> omega) | fail) only [Nat.reduceLT,Nat.reduceLeDiff,Nat.reduceEqDiff,↓reduceIte,Int.reduceLT,Int.reduceLE,Int.reduceToNat,Int.reduceEq,Int.reduceNe,Nat.reduceAdd,Int.reduceAdd,Int.reduceSub,Int.reduceMul,Nat.reduceMul,Qp0,Qp1,Ql0,Qe0,zAo,zAg,zAm,zAj,zAh,zAk,zAl,zAi,zAn,zAf,f7,f8,f14,zAa,zAb,hxq,hjq]
      refine (jcut2_any (flatP ps).length w0 q hD T.good).mono ?_
      rintro v q1 ⟨hD1, he1⟩
      have g1 : Good (endK (dn.cut (flatP ps).length)).1 := T.good.cut _
      rw [← hce] at hD1 he1 g1
      simp -dsimp -implicitDefEqProofs (disch := first | omega | assumption | (simp only [Option.isSome_some,Qt0]; done) | (simp only [List.length_cons,List.length_nil,List.length_append,Int.toNat_natCast] <;> omega) | fail) only [Nat.reduceLT,Nat.reduceLeDiff,Nat.reduceEqDiff,↓reduceIte,Int.reduceLT,Int.reduceLE,Int.reduceToNat,Int.reduceEq,Int.reduceNe,Nat.reduceAdd,Int.reduceAdd,Int.reduceSub,Int.reduceMul,Nat.reduceMul,Qp0,Qp1,Ql0,Qe0,zAo,zAg,zAm,zAj,zAh,zAk,zAl,zAi,zAn,zAf]
      cases hk : (cutEnd dn ps).2 with
      | some k =>
        rw [hk] at he1
        obtain ⟨t, y, rfl⟩ := he1.held
        simp -dsimp -implicitDefEqProofs (disch := first | omega | assumption | (simp only [Option.isSome_some,Qt0]; done) | (simp only [List.length_cons,List.length_nil,List.length_append,Int.toNat_natCast] <;> omega) | fail) only [Nat.reduceLT,Nat.reduceLeDiff,Nat.reduceEqDiff,↓reduceIte,Int.reduceLT,Int.reduceLE,Int.reduceToNat,Int.reduceEq,Int.reduceNe,Nat.reduceAdd,Int.reduceAdd,Int.reduceSub,Int.reduceMul,Nat.reduceMul,Qp0,Qp1,Ql0,Qe0,zAt,f7,f8,f14]
        refine (zB8 (some k) _ w0 q1 he1).mono ?_
        rintro v hb ⟨e3, rfl, hec, hlb⟩
        simp -dsimp -implicitDefEqProofs (disch := first | omega | assumption | (simp only [Option.isSome_some,Qt0]; done) | (simp only [List.length_cons,List.length_nil,List.length_append,Int.toNat_natCast] <;> omega) | fail) only [Nat.reduceLT,Nat.reduceLeDiff,Nat.reduceEqDiff,↓reduceIte,Int.reduceLT,Int.reduceLE,Int.reduceToNat,Int.reduceEq,Int.reduceNe,Nat.reduceAdd,Int.reduceAdd,Int.reduceSub,Int.reduceMul,Nat.reduceMul,Qp0,Qp1,Ql0,Qe0,zAt]
        exact ⟨_, PH.Le.refl _, T.fin _ _ _ _ _ (.cutErr hk) ⟨e3, rfl, hec, (hD1.mono hlb).base T.le⟩⟩
      | none =>
        rw [hk] at he1
        obtain rfl : v = .nilIface := he1
        simp -dsimp -implicitDefEqProofs (disch := first | omega | assumption | (simp only [Option.isSome_some,Qt0]; done) | (simp only [List.length_cons,List.length_nil,List.length_append,Int.toNat_natCast] <;> omega) | fail) only [Nat.reduceLT,Nat.reduceLeDiff,Nat.reduceEqDiff,↓reduceIte,Int.reduceLT,Int.reduceLE,Int.reduceToNat,Int.reduceEq,Int.reduceNe,Nat.reduceAdd,Int.reduceAdd,Int.reduceSub,Int.reduceMul,Nat.reduceMul,Qp0,Qp1,Ql0,Qe0,zAt,f7,f8,f14]
        exact ⟨n, o, dn, do_, ps, A, c, B, c2, cx, xb, jb, hB, T, hk, g1, hD1, by first | trivial | simp [f7], by first | trivial | simp [f8], by first | trivial | simp [f14]⟩
    · have d1 : decide (((flatP ps).length : Int) < (dn.l.length : Int)) = false := decide_eq_false (by omega)
      have hce : cutEnd dn ps = (dn, none) := by unfold cutEnd; rw [if_neg hlt]
      simp -dsimp -implicitDefEqProofs (disch := first | omega | assumption | (simp only [Option.isSome_some,Qt0]; done) | (simp only [List.length_cons,List.length_nil,List.length_append,Int.toNat_natCast] <;> omega) | fail) only [Nat.reduceLT,Nat.reduceLeDiff,Nat.reduceEqDiff,↓reduceIte,Int.reduceLT,Int.reduceLE,Int.reduceToNat,Int.reduceEq,Int.reduceNe,Nat.reduceAdd,Int.reduceAdd,Int.reduceSub,Int.reduceMul,Nat.reduceMul,Qp0,Qp1,Ql0,Qe0,zAo,zAg,zAm,zAj,zAh,zAk,zAl,zAi,zAn,zAf,f7,f8,f14,d1,zAt]
      exact ⟨n, o, dn, do_, ps, A, c, B, c2, cx, xb, jb, hB, T, by rw [hce], by rw [hce]; exact T.good, by rw [hce]; exact hD, by first | trivial | simp [f7], by first | trivial | simp [f8], by first | trivial | simp [f14]⟩
  clear hD f7 f8 f14 T hpn
  clear n o dn do_ ps A c B c2 cx xb jb hB
  obtain ⟨n, o, dn, do_, ps, A, c, B, c2, cx, xb, jb, hB, T, hce, g1, hD, f7, f8, f14⟩ := hM
  refine PW_low fun hlow => ?_
  dsimp only [zDt, zDm]
  refine PW_of (by kernel_rfl) ?_
  have hpn : ps ≠ [] := fun e => by have := T.ord; rw [e] at this; cases this
  have hn0 : 0 < ps.length := List.length_pos_iff.2 hpn
  have hcnt : ps.length ≤ 1048576 := by
    obtain ⟨_, r, hr, _⟩ := T.sc
    have h1 := zEh ps
    have h2 := congrArg List.length hr
    rw [List.length_append] at h2
    have := T.good.len
    omega
  have hgen := gen_ok T.ord T.sc.1
  have hXq := hD.same _ _ T.hX
  have hJq := hD.same _ _ T.hJ
  unfold jL at hJq
  have hAq := T.hA.more hD.le
  obtain ⟨pb, po, hAe⟩ := hAq.addr (by rw [zC6]; omega)
  subst hAe
  obtain ⟨x, hlast⟩ : ∃ x, ps[ps.length - 1]? = some x := ⟨_, List.getElem?_eq_getElem (by omega)⟩
  have hgl : ps.getLast? = some x := by rw [List.getLast?_eq_getElem?]; exact hlast
  have hpt := Rv.partM hAq hlow hlast 0 _ rfl
  rw [Nat.add_zero] at hpt
  have hT1 : ((ps.length : Int) - 1).toNat = ps.length - 1 := by omega
  by_cases hk4 : x.k = 4
  · have d4 : decide (¬ (x.k : Int) = 4) = false := decide_eq_false (by omega)
    simp -dsimp -implicitDefEqProofs (disch := first | omega | assumption | (simp only [Option.isSome_some,Qt0]; done) | (simp only [List.length_cons,List.length_nil,List.length_append,Int.toNat_natCast] <;> omega) | fail) only [Nat.reduceLT,Nat.reduceLeDiff,Nat.reduceEqDiff,↓reduceIte,Int.reduceLT,Int.reduceLE,Int.reduceToNat,Int.reduceEq,Int.reduceNe,Nat.reduceAdd,Int.reduceAdd,Int.reduceSub,Int.reduceMul,Nat.reduceMul,Qp0,Qp1,Ql0,Qe0,zAt,f7,f8,f14,zAa,zAb,hXq,hpt,hT1,d4]
    have hrr : rdN w0 q ⟨xb, 0, none⟩ 5 = some [.slice (some ⟨pb, po, none⟩) ps.length c, .slice B ps.length c2, .int .i64 (flatP ps).length, .bool cx, .bool true] := by unfold rdN; simp only [hXq]; rfl
    have hRec := zEp (some ⟨pb, po, none⟩) B c ps.length c2 (flatP ps).length cx true ps w0 q (T.hA.more hD.le) (by first | omega | (rw [List.length_take]; omega))
    unfold lkL at hRec
    skip
    simp -dsimp -implicitDefEqProofs (disch := first | omega | assumption | (simp only [Option.isSome_some,Qt0]; done) | (simp only [List.length_cons,List.length_nil,List.length_append,Int.toNat_natCast] <;> omega) | fail) only [Nat.reduceLT,Nat.reduceLeDiff,Nat.reduceEqDiff,↓reduceIte,Int.reduceLT,Int.reduceLE,Int.reduceToNat,Int.reduceEq,Int.reduceNe,Nat.reduceAdd,Int.reduceAdd,Int.reduceSub,Int.reduceMul,Nat.reduceMul,Qp0,Qp1,Ql0,Qe0,zAt,f7,f8,f14,hrr]
    refine hRec.mono ?_
    rintro v qz how
    obtain ⟨hz1, z1, z2, z3, z4, z5⟩ := hD.grow how.le
    have hjz := z2.m _ _ T.hJ
    have hjlt := q.lt _ _ (hD.le.m _ _ T.hJ)
    have htq := hD.le.top
    simp -dsimp -implicitDefEqProofs (disch := first | omega | assumption | (simp only [Option.isSome_some,Qt0]; done) | (simp only [List.length_cons,List.length_nil,List.length_append,Int.toNat_natCast] <;> omega) | fail) only [Nat.reduceLT,Nat.reduceLeDiff,Nat.reduceEqDiff,↓reduceIte,Int.reduceLT,Int.reduceLE,Int.reduceToNat,Int.reduceEq,Int.reduceNe,Nat.reduceAdd,Int.reduceAdd,Int.reduceSub,Int.reduceMul,Nat.reduceMul,Qp0,Qp1,Ql0,Qe0,zAt]
    refine ⟨_, PH.Le.refl _, T.fin _ _ _ _ _ (.marked hce ⟨x, hgl, hk4⟩) ⟨jb, v, hz1.del jb, rfl, (T.le.trans z2).del jb T.j0, z1.js hjz, how.own.at fun x k r1 r2 => ?_, fun y r1 => ?_⟩⟩
    · have := how.new x r1
      rw [PH.del_m, if_neg (by omega)]
      exact z5 x k this r2
    · have := how.new y r1
      have := T.F
      omega
  have d4 : decide (¬ (x.k : Int) = 4) = true := decide_eq_true (by omega)
  simp -dsimp -implicitDefEqProofs (disch := first | omega | assumption | (simp only [Option.isSome_some,Qt0]; done) | (simp only [List.length_cons,List.length_nil,List.length_append,Int.toNat_natCast] <;> omega) | fail) only [Nat.reduceLT,Nat.reduceLeDiff,Nat.reduceEqDiff,↓reduceIte,Int.reduceLT,Int.reduceLE,Int.reduceToNat,Int.reduceEq,Int.reduceNe,Nat.reduceAdd,Int.reduceAdd,Int.reduceSub,Int.reduceMul,Nat.reduceMul,Qp0,Qp1,Ql0,Qe0,zAt,f7,f8,f14,zAa,zAb,hXq,hpt,hT1,d4]
  refine zB0 (.take 0 (.take 1 (.take 2 (.take 3 (.take 4 (.take 5 (.take 6 (.take 7 (.take 8 (.cut [9, 10])))))))))) q (by kernel_rfl) (by decide +kernel) (by kernel_rfl) (by kernel_rfl) (by kernel_rfl) (fun c f h hq => by simp only [zAy, zAv, zAw, zAu, zAx] at hq) (PH.Le.refl _).sub ?_
  simp -dsimp -implicitDefEqProofs (disch := first | omega | assumption | (simp only [Option.isSome_some,Qt0]; done) | (simp only [List.length_cons,List.length_nil,List.length_append,Int.toNat_natCast] <;> omega) | fail) only [Nat.reduceLT,Nat.reduceLeDiff,Nat.reduceEqDiff,↓reduceIte,Int.reduceLT,Int.reduceLE,Int.reduceToNat,Int.reduceEq,Int.reduceNe,Nat.reduceAdd,Int.reduceAdd,Int.reduceSub,Int.reduceMul,Nat.reduceMul,Qp0,Qp1,Ql0,Qe0,zAo,zAg,zAm,zAj,zAh,zAk,zAl,zAi,zAn,zAf,f7,f8,f14,zAa,zAb,hJq]
  refine (jmark2_any _ (genP ps) hgen w0 q hD g1).mono ?_
  rintro v q2 ⟨hD2, he2⟩
  have g2 := zHi g1 (genP ps)
  have hXq2 := hD2.same _ _ T.hX
  have hJq2 := hD2.same _ _ T.hJ
  unfold jL at hJq2
  simp -dsimp -implicitDefEqProofs (disch := first | omega | assumption | (simp only [Option.isSome_some,Qt0]; done) | (simp only [List.length_cons,List.length_nil,List.length_append,Int.toNat_natCast] <;> omega) | fail) only [Nat.reduceLT,Nat.reduceLeDiff,Nat.reduceEqDiff,↓reduceIte,Int.reduceLT,Int.reduceLE,Int.reduceToNat,Int.reduceEq,Int.reduceNe,Nat.reduceAdd,Int.reduceAdd,Int.reduceSub,Int.reduceMul,Nat.reduceMul,Qp0,Qp1,Ql0,Qe0,zAo,zAg,zAm,zAj,zAh,zAk,zAl,zAi,zAn,zAf]
  cases hmk : (markM (cutEnd dn ps).1 (genP ps)).2 with
  | none =>
    rw [hmk] at he2
    obtain rfl : v = .nilIface := he2
    have hI := zGr 4 w0 q2
    unfold codeV at hI
    refine hI.mono ?_
    rintro r hz ⟨rfl, hz'⟩
    obtain rfl := hz'.symm
    simp -dsimp -implicitDefEqProofs (disch := first | omega | assumption | (simp only [Option.isSome_some,Qt0]; done) | (simp only [List.length_cons,List.length_nil,List.length_append,Int.toNat_natCast] <;> omega) | fail) only [Nat.reduceLT,Nat.reduceLeDiff,Nat.reduceEqDiff,↓reduceIte,Int.reduceLT,Int.reduceLE,Int.reduceToNat,Int.reduceEq,Int.reduceNe,Nat.reduceAdd,Int.reduceAdd,Int.reduceSub,Int.reduceMul,Nat.reduceMul,Qp0,Qp1,Ql0,Qe0,zAt,f7,f8,f14]
    have htl := TailR.mark (g := genP ps) hce ⟨x, hgl, hk4⟩ (by rw [hmk]; simp)
    rw [hmk] at htl
    have hrr : rdN w0 q2 ⟨xb, 0, none⟩ 5 = some [.slice (some ⟨pb, po, none⟩) ps.length c, .slice B ps.length c2, .int .i64 (flatP ps).length, .bool cx, .bool true] := by unfold rdN; simp only [hXq2]; rfl
    have hRec := zEp (some ⟨pb, po, none⟩) B c ps.length c2 (flatP ps).length cx true ps w0 q2 (T.hA.more hD2.le) (by first | omega | (rw [List.length_take]; omega))
    unfold lkL at hRec
    skip
    simp -dsimp -implicitDefEqProofs (disch := first | omega | assumption | (simp only [Option.isSome_some,Qt0]; done) | (simp only [List.length_cons,List.length_nil,List.length_append,Int.toNat_natCast] <;> omega) | fail) only [Nat.reduceLT,Nat.reduceLeDiff,Nat.reduceEqDiff,↓reduceIte,Int.reduceLT,Int.reduceLE,Int.reduceToNat,Int.reduceEq,Int.reduceNe,Nat.reduceAdd,Int.reduceAdd,Int.reduceSub,Int.reduceMul,Nat.reduceMul,Qp0,Qp1,Ql0,Qe0,zAt,f7,f8,f14,hrr]
    refine hRec.mono ?_
    rintro v qz how
    obtain ⟨hz1, z1, z2, z3, z4, z5⟩ := hD2.grow how.le
    have hjz := z2.m _ _ T.hJ
    have hjlt := q2.lt _ _ (hD2.le.m _ _ T.hJ)
    have htq := hD2.le.top
    simp -dsimp -implicitDefEqProofs (disch := first | omega | assumption | (simp only [Option.isSome_some,Qt0]; done) | (simp only [List.length_cons,List.length_nil,List.length_append,Int.toNat_natCast] <;> omega) | fail) only [Nat.reduceLT,Nat.reduceLeDiff,Nat.reduceEqDiff,↓reduceIte,Int.reduceLT,Int.reduceLE,Int.reduceToNat,Int.reduceEq,Int.reduceNe,Nat.reduceAdd,Int.reduceAdd,Int.reduceSub,Int.reduceMul,Nat.reduceMul,Qp0,Qp1,Ql0,Qe0,zAt]
    refine ⟨_, PH.Le.refl _, T.fin _ _ _ _ _ (htl) ⟨jb, v, hz1.del jb, rfl, (T.le.trans z2).del jb T.j0, z1.js hjz, how.own.at fun x k r1 r2 => ?_, fun y r1 => ?_⟩⟩
    · have := how.new x r1
      rw [PH.del_m, if_neg (by omega)]
      exact z5 x k this r2
    · have := how.new y r1
      have := T.F
      omega
  | some k =>
    rw [hmk] at he2
    have hI := zBa 4 he2 w0
    unfold codeV at hI
    obtain ⟨t, y, rfl⟩ := he2.held
    refine hI.mono ?_
    rintro r hz ⟨rfl, hz'⟩
    obtain rfl := hz'.symm
    by_cases hk : k = 4
    rotate_left
    · have d5 : decide (k = 4) = false := decide_eq_false hk
      simp -dsimp -implicitDefEqProofs (disch := first | omega | assumption | (simp only [Option.isSome_some,Qt0]; done) | (simp only [List.length_cons,List.length_nil,List.length_append,Int.toNat_natCast] <;> omega) | fail) only [Nat.reduceLT,Nat.reduceLeDiff,Nat.reduceEqDiff,↓reduceIte,Int.reduceLT,Int.reduceLE,Int.reduceToNat,Int.reduceEq,Int.reduceNe,Nat.reduceAdd,Int.reduceAdd,Int.reduceSub,Int.reduceMul,Nat.reduceMul,Qp0,Qp1,Ql0,Qe0,zAt,f7,f8,f14,d5]
      have htl := TailR.mark (g := genP ps) hce ⟨x, hgl, hk4⟩ (by rw [hmk]; simpa using hk)
      rw [hmk] at htl
      refine (zB8 (some k) _ w0 _ he2).mono ?_
      rintro v hb ⟨e3, rfl, hec, hlb⟩
      simp -dsimp -implicitDefEqProofs (disch := first | omega | assumption | (simp only [Option.isSome_some,Qt0]; done) | (simp only [List.length_cons,List.length_nil,List.length_append,Int.toNat_natCast] <;> omega) | fail) only [Nat.reduceLT,Nat.reduceLeDiff,Nat.reduceEqDiff,↓reduceIte,Int.reduceLT,Int.reduceLE,Int.reduceToNat,Int.reduceEq,Int.reduceNe,Nat.reduceAdd,Int.reduceAdd,Int.reduceSub,Int.reduceMul,Nat.reduceMul,Qp0,Qp1,Ql0,Qe0,zAt]
      exact ⟨_, PH.Le.refl _, T.fin _ _ _ _ _ (htl) ⟨e3, rfl, hec, (hD2.mono hlb).base T.le⟩⟩
    have d5 : decide (k = 4) = true := decide_eq_true hk
    have hm4 : (markM (cutEnd dn ps).1 (genP ps)).2 = some 4 := by rw [hmk, hk]
    have hBk := jback2_any xb (some ⟨pb, po, none⟩) B c c2 (flatP ps).length cx true ps w0 _ T.hX hD2 g2 T.hA T.hBr T.hxB T.hnc (by omega)
    simp -dsimp -implicitDefEqProofs (disch := first | omega | assumption | (simp only [Option.isSome_some,Qt0]; done) | (simp only [List.length_cons,List.length_nil,List.length_append,Int.toNat_natCast] <;> omega) | fail) only [Nat.reduceLT,Nat.reduceLeDiff,Nat.reduceEqDiff,↓reduceIte,Int.reduceLT,Int.reduceLE,Int.reduceToNat,Int.reduceEq,Int.reduceNe,Nat.reduceAdd,Int.reduceAdd,Int.reduceSub,Int.reduceMul,Nat.reduceMul,Qp0,Qp1,Ql0,Qe0,zAt,f7,f8,f14,d5,zAa,zAb,hJq2]
    refine hBk.mono ?_
    rintro v q3 (⟨hno, rfl, hD3⟩ | ⟨i, hi, hD3, he3⟩)
    · have hXq3 := hD3.same _ _ T.hX
      simp -dsimp -implicitDefEqProofs (disch := first | omega | assumption | (simp only [Option.isSome_some,Qt0]; done) | (simp only [List.length_cons,List.length_nil,List.length_append,Int.toNat_natCast] <;> omega) | fail) only [Nat.reduceLT,Nat.reduceLeDiff,Nat.reduceEqDiff,↓reduceIte,Int.reduceLT,Int.reduceLE,Int.reduceToNat,Int.reduceEq,Int.reduceNe,Nat.reduceAdd,Int.reduceAdd,Int.reduceSub,Int.reduceMul,Nat.reduceMul,Qp0,Qp1,Ql0,Qe0,zAt,f7,f8,f14]
      have hrr : rdN w0 q3 ⟨xb, 0, none⟩ 5 = some [.slice (some ⟨pb, po, none⟩) ps.length c, .slice B ps.length c2, .int .i64 (flatP ps).length, .bool cx, .bool true] := by unfold rdN; simp only [hXq3]; rfl
      have hRec := zEp (some ⟨pb, po, none⟩) B c ps.length c2 (flatP ps).length cx true ps w0 q3 (T.hA.more hD3.le) (by first | omega | (rw [List.length_take]; omega))
      unfold lkL at hRec
      skip
      simp -dsimp -implicitDefEqProofs (disch := first | omega | assumption | (simp only [Option.isSome_some,Qt0]; done) | (simp only [List.length_cons,List.length_nil,List.length_append,Int.toNat_natCast] <;> omega) | fail) only [Nat.reduceLT,Nat.reduceLeDiff,Nat.reduceEqDiff,↓reduceIte,Int.reduceLT,Int.reduceLE,Int.reduceToNat,Int.reduceEq,Int.reduceNe,Nat.reduceAdd,Int.reduceAdd,Int.reduceSub,Int.reduceMul,Nat.reduceMul,Qp0,Qp1,Ql0,Qe0,zAt,f7,f8,f14,hrr]
      refine hRec.mono ?_
      rintro v qz how
      obtain ⟨hz1, z1, z2, z3, z4, z5⟩ := hD3.grow how.le
      have hjz := z2.m _ _ T.hJ
      have hjlt := q3.lt _ _ (hD3.le.m _ _ T.hJ)
      have htq := hD3.le.top
      simp -dsimp -implicitDefEqProofs (disch := first | omega | assumption | (simp only [Option.isSome_some,Qt0]; done) | (simp only [List.length_cons,List.length_nil,List.length_append,Int.toNat_natCast] <;> omega) | fail) only [Nat.reduceLT,Nat.reduceLeDiff,Nat.reduceEqDiff,↓reduceIte,Int.reduceLT,Int.reduceLE,Int.reduceToNat,Int.reduceEq,Int.reduceNe,Nat.reduceAdd,Int.reduceAdd,Int.reduceSub,Int.reduceMul,Nat.reduceMul,Qp0,Qp1,Ql0,Qe0,zAt]
      refine ⟨_, PH.Le.refl _, T.fin _ _ _ _ _ (.noMark hce ⟨x, hgl, hk4⟩ hm4 hno) ⟨jb, v, hz1.del jb, rfl, (T.le.trans z2).del jb T.j0, z1.js hjz, how.own.at fun x k r1 r2 => ?_, fun y r1 => ?_⟩⟩
      · have := how.new x r1
        rw [PH.del_m, if_neg (by omega)]
        exact z5 x k this r2
      · have := how.new y r1
        have := T.F
        omega
    · have htl := TailR.back (g := genP ps) hce ⟨x, hgl, hk4⟩ hm4 hi
      have hil : i < ps.length := by obtain ⟨⟨y, hy, _⟩, _⟩ := hi; exact (List.getElem?_eq_some_iff.1 hy).1
      have hzl : (ps.take (i + 1)).length = i + 1 := by rw [List.length_take]; omega
      obtain ⟨hBx, hBxe⟩ : ∃ z, hB.new xb ⟨lkL (some ⟨pb, po, none⟩) (i + 1) c B ps.length c2 (flatP ps).length cx true, 5⟩ = z := ⟨_, rfl⟩
      have hleX : PH.Le h0 hBx := by rw [← hBxe]; exact T.le.new _ _ T.x0
      have hJx : hBx.m jb = some ⟨jL n o (genP ps) false, 4⟩ := by rw [← hBxe, PH.new_m, if_neg T.jx]; exact T.hJ
      have hXx : hBx.m xb = some ⟨lkL (some ⟨pb, po, none⟩) (i + 1) c B ps.length c2 (flatP ps).length cx true, 5⟩ := by rw [← hBxe, PH.new_m, if_pos rfl]
      have hTx : hB.top ≤ hBx.top := by rw [← hBxe]; simp only [PH.new_top]; omega
      have hAx : Rv w0 hBx (some ⟨pb, po, none⟩) (ptsL (ps.take (i + 1))) := by
        refine (Rv.left (ys := ptsL (ps.drop (i + 1))) (by rw [← zG8, List.take_append_drop]; exact T.hA)).at fun y e k r => ?_
        rw [← hBxe, PH.new_m, if_neg (T.hxA y e)]; exact r
      rw [hBxe] at hD3
      have hXq3 := hD3.same _ _ hXx
      unfold lkL at hXq3
      cases hcc : ((markM (cutEnd dn ps).1 (genP ps)).1.cut (flatP (ps.take (i + 1))).length).2 with
      | some kc =>
        rw [hcc] at he3 htl
        obtain ⟨t, y, rfl⟩ := he3.held
        simp -dsimp -implicitDefEqProofs (disch := first | omega | assumption | (simp only [Option.isSome_some,Qt0]; done) | (simp only [List.length_cons,List.length_nil,List.length_append,Int.toNat_natCast] <;> omega) | fail) only [Nat.reduceLT,Nat.reduceLeDiff,Nat.reduceEqDiff,↓reduceIte,Int.reduceLT,Int.reduceLE,Int.reduceToNat,Int.reduceEq,Int.reduceNe,Nat.reduceAdd,Int.reduceAdd,Int.reduceSub,Int.reduceMul,Nat.reduceMul,Qp0,Qp1,Ql0,Qe0,zAt,f7,f8,f14]
        refine (zB8 (some kc.1) _ w0 q3 he3).mono ?_
        rintro v hb ⟨e3, rfl, hec, hlb⟩
        simp -dsimp -implicitDefEqProofs (disch := first | omega | assumption | (simp only [Option.isSome_some,Qt0]; done) | (simp only [List.length_cons,List.length_nil,List.length_append,Int.toNat_natCast] <;> omega) | fail) only [Nat.reduceLT,Nat.reduceLeDiff,Nat.reduceEqDiff,↓reduceIte,Int.reduceLT,Int.reduceLE,Int.reduceToNat,Int.reduceEq,Int.reduceNe,Nat.reduceAdd,Int.reduceAdd,Int.reduceSub,Int.reduceMul,Nat.reduceMul,Qp0,Qp1,Ql0,Qe0,zAt]
        exact ⟨_, PH.Le.refl _, T.fin _ _ _ _ _ (htl) ⟨e3, rfl, hec, (hD3.mono hlb).base hleX⟩⟩
      | none =>
        rw [hcc] at he3 htl
        obtain rfl : v = .nilIface := he3
        simp -dsimp -implicitDefEqProofs (disch := first | omega | assumption | (simp only [Option.isSome_some,Qt0]; done) | (simp only [List.length_cons,List.length_nil,List.length_append,Int.toNat_natCast] <;> omega) | fail) only [Nat.reduceLT,Nat.reduceLeDiff,Nat.reduceEqDiff,↓reduceIte,Int.reduceLT,Int.reduceLE,Int.reduceToNat,Int.reduceEq,Int.reduceNe,Nat.reduceAdd,Int.reduceAdd,Int.reduceSub,Int.reduceMul,Nat.reduceMul,Qp0,Qp1,Ql0,Qe0,zAt,f7,f8,f14]
        have hrr : rdN w0 q3 ⟨xb, 0, none⟩ 5 = some [.slice (some ⟨pb, po, none⟩) (i + 1) c, .slice B ps.length c2, .int .i64 (flatP ps).length, .bool cx, .bool true] := by unfold rdN; simp only [hXq3]; rfl
        have hRec := zEp (some ⟨pb, po, none⟩) B c ps.length c2 (flatP ps).length cx true (ps.take (i + 1)) w0 q3 (hAx.more hD3.le) (by first | omega | (rw [List.length_take]; omega))
        unfold lkL at hRec
        rw [hzl] at hRec
        simp -dsimp -implicitDefEqProofs (disch := first | omega | assumption | (simp only [Option.isSome_some,Qt0]; done) | (simp only [List.length_cons,List.length_nil,List.length_append,Int.toNat_natCast] <;> omega) | fail) only [Nat.reduceLT,Nat.reduceLeDiff,Nat.reduceEqDiff,↓reduceIte,Int.reduceLT,Int.reduceLE,Int.reduceToNat,Int.reduceEq,Int.reduceNe,Nat.reduceAdd,Int.reduceAdd,Int.reduceSub,Int.reduceMul,Nat.reduceMul,Qp0,Qp1,Ql0,Qe0,zAt,f7,f8,f14,hrr]
        refine hRec.mono ?_
        rintro v qz how
        obtain ⟨hz1, z1, z2, z3, z4, z5⟩ := hD3.grow how.le
        have hjz := z2.m _ _ hJx
        have hjlt := q3.lt _ _ (hD3.le.m _ _ hJx)
        have htq := hD3.le.top
        simp -dsimp -implicitDefEqProofs (disch := first | omega | assumption | (simp only [Option.isSome_some,Qt0]; done) | (simp only [List.length_cons,List.length_nil,List.length_append,Int.toNat_natCast] <;> omega) | fail) only [Nat.reduceLT,Nat.reduceLeDiff,Nat.reduceEqDiff,↓reduceIte,Int.reduceLT,Int.reduceLE,Int.reduceToNat,Int.reduceEq,Int.reduceNe,Nat.reduceAdd,Int.reduceAdd,Int.reduceSub,Int.reduceMul,Nat.reduceMul,Qp0,Qp1,Ql0,Qe0,zAt]
        refine ⟨_, PH.Le.refl _, T.fin _ _ _ _ _ (htl) ⟨jb, v, hz1.del jb, rfl, (hleX.trans z2).del jb T.j0, z1.js hjz, how.own.at fun x k r1 r2 => ?_, fun y r1 => ?_⟩⟩
        · have := how.new x r1
          rw [PH.del_m, if_neg (by omega)]
          exact z5 x k this r2
        · have := how.new y r1
          have := T.F
          omega
end Go.Proofs.Ytblikpbaeippaaa

