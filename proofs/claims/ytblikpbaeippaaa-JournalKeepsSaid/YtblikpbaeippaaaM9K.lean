/- Parts Jk2, Bk6, Jd1, Jk3, Jk4, joined. No condition. -/
import Derived.Test.YtblikpbaeippaaaM8K
import Derived.Test.YtblikpbaeippaaaM7K
namespace Go.Proofs.Ytblikpbaeippaaa
set_option linter.unusedVariables false
set_option linter.unusedSimpArgs false
open Go.RowKit Px Wr
def ptsL (ps : List Pt) : List Value := ps.flatMap ptL
theorem zC6 (l : List Pt) : (ptsL l).length = l.length * 4 := by
  induction l with
  | nil => rfl
  | cons p l ih => rw [ptsL, List.flatMap_cons, List.length_append, ← ptsL, ih, List.length_cons, Nat.add_mul]; show 4 + _ = _; omega
theorem zH1 : ∀ (l : List Pt) (i : Nat) (p : Pt), l[i]? = some p → ((ptsL l).drop (i * 4)).take 4 = ptL p
  | [], i, p, h => by simp at h
  | q :: l, 0, p, h => by
    simp at h; subst h
    rw [ptsL, List.flatMap_cons, Nat.zero_mul, List.drop_zero]
    exact List.take_left (l₁ := ptL q)
  | q :: l, i + 1, p, h => by
    have ih := zH1 l i p (by simpa using h)
    have hl : (ptL q).length = 4 := rfl
    rw [ptsL, List.flatMap_cons, List.drop_append, List.drop_eq_nil_of_le (by rw [hl]; omega), List.nil_append, hl, show (i + 1) * 4 - 4 = i * 4 by omega]
    exact ih
theorem ptsL_get (l : List Pt) (i : Nat) (p : Pt) (hp : l[i]? = some p) (j : Nat) (hj : j < 4) : (ptsL l)[i * 4 + j]? = (ptL p)[j]? := by
  rw [← zH1 l i p hp, List.getElem?_take_of_lt hj, List.getElem?_drop]
theorem zG8 (a b : List Pt) : ptsL (a ++ b) = ptsL a ++ ptsL b := by simp [ptsL]
theorem zCr (x : Pt) : allOne (ptL x) := one4 _ _ _ _
theorem Px.Rv.part {w0 : World} {h : PH} {b o : Nat} {ps : List Pt} (r : Rv w0 h (some ⟨b, o, none⟩) (ptsL ps)) (hl : Low w0 h) {i : Nat} {x : Pt} (hx : ps[i]? = some x) : Px.rdN w0 h ⟨b, o + i * 4, none⟩ 4 = some (ptL x) := by
  have hc : Rv w0 h (some ⟨b, o + i * 4, none⟩) (ptL x) := fun j u eu => by
    have hj : j < 4 := (List.getElem?_eq_some_iff.1 eu).1
    have e2 := ptsL_get ps i x hx j hj
    rw [eu] at e2
    obtain ⟨b', o', h1, h2⟩ := r (i * 4 + j) u e2
    injection h1 with h1
    injection h1 with h1 h3
    subst h1; subst h3
    exact ⟨b, o + i * 4, rfl, by rw [Nat.add_assoc]; exact h2⟩
  exact hc.rdN hl rfl (by omega)
theorem Px.Rv.partM {w0 : World} {h : PH} {b o : Nat} {ps : List Pt} (r : Rv w0 h (some ⟨b, o, none⟩) (ptsL ps)) (hl : Low w0 h) {i : Nat} {x : Pt} (hx : ps[i]? = some x) (j : Nat) (u : Value) (hj : (ptL x)[j]? = some u) : rdM w0 (h.m b) b (o + (i * 4 + j)) = some u := by
  have h4 : j < 4 := (List.getElem?_eq_some_iff.1 hj).1
  exact r.get hl (by rw [ptsL_get ps i x hx j h4]; exact hj)
def lkL (A : Option Addr) (n c : Nat) (B : Option Addr) (n2 c2 : Nat) (e : Nat) (cor wh : Bool) : List Value := [.slice A n c, .slice B n2 c2, .int .i64 e, .bool cor, .bool wh]
set_option maxRecDepth 20000 in
set_option maxHeartbeats 1000000 in
theorem zCs (A B : Option Addr) (c n2 c2 e : Nat) (cor wh : Bool) (ps : List Pt) (w0 : World) (h : PH) (hr : Rv w0 h A (ptsL ps)) : PCalls Try.prog w0 29 [.agg (lkL A ps.length c B n2 c2 e cor wh).toArray] h fun v h' => v = .int .i64 (genP ps) ∧ PH.Le h h' := by
  refine zCb fun q hlq hlow hut => ?_
  refine zAp Try.func29 (by kernel_rfl) rfl _ Try.ntmps29 (by kernel_rfl) (by kernel_rfl) _ Try.results29 ?_
  have hrq := hr.more hlq
  obtain ⟨n, hn⟩ : ∃ n, n = ps.length := ⟨_, rfl⟩
  rw [← hn]
  unfold lkL
  simp -dsimp -implicitDefEqProofs (disch := first | omega | assumption | (simp only [Option.isSome_some,Qt0]; done) | (simp only [List.length_cons,List.length_nil,List.length_append,Int.toNat_natCast] <;> omega) | fail) only [Nat.reduceLT,Nat.reduceLeDiff,Nat.reduceEqDiff,↓reduceIte,Int.reduceLT,Int.reduceLE,Int.reduceToNat,Int.reduceEq,Int.reduceNe,Nat.reduceAdd,Int.reduceAdd,Int.reduceSub,Int.reduceMul,Nat.reduceMul,Qp0,Qp1,Ql0,Qe0]
  refine fun xb hxb => ?_
  have hxb' : q.top ≤ xb := hxb
  obtain ⟨h1, hh1⟩ : ∃ h1, q.new xb ⟨[.slice A n c, .slice B n2 c2, .int .i64 e, .bool cor, .bool wh], 5⟩ = h1 := ⟨_, rfl⟩
  have hl1 : PH.Le q h1 := by rw [← hh1]; exact (PH.Le.refl q).new _ _ hxb
  have hm1 : h1.m xb = some ⟨[.slice A n c, .slice B n2 c2, .int .i64 e, .bool cor, .bool wh], 5⟩ := by rw [← hh1, PH.new_m, if_pos rfl]
  have hlow1 : Low w0 h1 := by rw [← hh1]; exact hlow.new (by omega) _
  have hlf := hlq.trans hl1
  cases ps with
  | nil =>
    have e0 : decide ((n : Int) = 0) = true := decide_eq_true (by rw [hn]; rfl)
    simp -dsimp -implicitDefEqProofs (disch := first | omega | assumption | (simp only [Option.isSome_some,Qt0]; done) | (simp only [List.length_cons,List.length_nil,List.length_append,Int.toNat_natCast] <;> omega) | fail) only [Nat.reduceLT,Nat.reduceLeDiff,Nat.reduceEqDiff,↓reduceIte,Int.reduceLT,Int.reduceLE,Int.reduceToNat,Int.reduceEq,Int.reduceNe,Nat.reduceAdd,Int.reduceAdd,Int.reduceSub,Int.reduceMul,Nat.reduceMul,Qp0,Qp1,Ql0,Qe0,hh1,zAa,zAb,hm1,e0]
    exact ⟨_, PH.Le.refl _, by first | trivial | rfl, hlf⟩
  | cons b l =>
    have hr1 := hrq.more hl1
    obtain ⟨pb, po, rfl⟩ := hr1.addr (by rw [zC6]; simp)
    have gg0 : rdM w0 (h1.m pb) pb po = some (.int .i64 b.k) := by
      have := Rv.partM hr1 hlow1 (i := 0) (x := b) rfl 0 _ rfl
      simpa using this
    have gg1 : rdM w0 (h1.m pb) pb (po + 1) = some (.int .i64 b.g) := by
      have := Rv.partM hr1 hlow1 (i := 0) (x := b) rfl 1 _ rfl
      simpa using this
    have hn0 : 0 < n := by rw [hn]; simp
    have e0 : decide ((n : Int) = 0) = false := decide_eq_false (by omega)
    by_cases hk : b.k = 1
    · have e1 : decide (¬ (b.k : Int) = 1) = false := decide_eq_false (by omega)
      have hgp : genP (b :: l) = b.g := by simp [genP, hk]
      rw [hgp]
      simp -dsimp -implicitDefEqProofs (disch := first | omega | assumption | (simp only [Option.isSome_some,Qt0]; done) | (simp only [List.length_cons,List.length_nil,List.length_append,Int.toNat_natCast] <;> omega) | fail) only [Nat.reduceLT,Nat.reduceLeDiff,Nat.reduceEqDiff,↓reduceIte,Int.reduceLT,Int.reduceLE,Int.reduceToNat,Int.reduceEq,Int.reduceNe,Nat.reduceAdd,Int.reduceAdd,Int.reduceSub,Int.reduceMul,Nat.reduceMul,Qp0,Qp1,Ql0,Qe0,hh1,zAa,zAb,hm1,e0,gg0,e1,gg1]
      exact ⟨_, PH.Le.refl _, by trivial, hlf⟩
    · have e1 : decide (¬ (b.k : Int) = 1) = true := decide_eq_true (by omega)
      have hgp : genP (b :: l) = 0 := by simp [genP, hk]
      rw [hgp]
      simp -dsimp -implicitDefEqProofs (disch := first | omega | assumption | (simp only [Option.isSome_some,Qt0]; done) | (simp only [List.length_cons,List.length_nil,List.length_append,Int.toNat_natCast] <;> omega) | fail) only [Nat.reduceLT,Nat.reduceLeDiff,Nat.reduceEqDiff,↓reduceIte,Int.reduceLT,Int.reduceLE,Int.reduceToNat,Int.reduceEq,Int.reduceNe,Nat.reduceAdd,Int.reduceAdd,Int.reduceSub,Int.reduceMul,Nat.reduceMul,Qp0,Qp1,Ql0,Qe0,hh1,zAa,zAb,hm1,e0,gg0,e1,gg1]
      exact ⟨_, PH.Le.refl _, by first | trivial | rfl, hlf⟩
set_option maxRecDepth 20000 in
set_option maxHeartbeats 2000000 in
theorem zG5 (A : Option Addr) (c : Nat) (ps : List Pt) (w0 : World) (h : PH) (hr : Rv w0 h A (ptsL ps)) (hN : ps.length ≤ 1000000000) : PCalls Try.prog w0 48 [.slice A ps.length c] h fun v h' => v = .bool (ordB ps) ∧ PH.Le h h' := by
  refine zCb fun q hlq hlow hut => ?_
  refine zAp Try.func48 (by kernel_rfl) rfl _ Try.ntmps48 (by kernel_rfl) (by kernel_rfl) _ Try.results48 ?_
  have hrq := hr.more hlq
  obtain ⟨n, hn⟩ : ∃ n, n = ps.length := ⟨_, rfl⟩
  rw [← hn]
  cases ps with
  | nil =>
    have e0 : decide ((n : Int) = 0) = true := decide_eq_true (by rw [hn]; rfl)
    simp -dsimp -implicitDefEqProofs (disch := first | omega | assumption | (simp only [Option.isSome_some,Qt0]; done) | (simp only [List.length_cons,List.length_nil,List.length_append,Int.toNat_natCast] <;> omega) | fail) only [Nat.reduceLT,Nat.reduceLeDiff,Nat.reduceEqDiff,↓reduceIte,Int.reduceLT,Int.reduceLE,Int.reduceToNat,Int.reduceEq,Int.reduceNe,Nat.reduceAdd,Int.reduceAdd,Int.reduceSub,Int.reduceMul,Nat.reduceMul,Qp0,Qp1,Ql0,Qe0,zAa,zAb,e0]
    exact ⟨_, PH.Le.refl _, by first | trivial | rfl, hlq⟩
  | cons b l =>
    obtain ⟨pb, po, rfl⟩ := hrq.addr (by rw [zC6]; simp)
    have gg0 : rdM w0 (q.m pb) pb po = some (.int .i64 b.k) := by
      have := Rv.partM hrq hlow (i := 0) (x := b) rfl 0 _ rfl
      simpa using this
    have hn0 : 0 < n := by rw [hn]; simp
    have e0 : decide ((n : Int) = 0) = false := decide_eq_false (by omega)
    by_cases hk : b.k = 1
    rotate_left
    · have e1 : decide (¬ (b.k : Int) = 1) = true := decide_eq_true (by omega)
      have hgp : ordB (b :: l) = false := by simp [ordB, hk]
      rw [hgp]
      simp -dsimp -implicitDefEqProofs (disch := first | omega | assumption | (simp only [Option.isSome_some,Qt0]; done) | (simp only [List.length_cons,List.length_nil,List.length_append,Int.toNat_natCast] <;> omega) | fail) only [Nat.reduceLT,Nat.reduceLeDiff,Nat.reduceEqDiff,↓reduceIte,Int.reduceLT,Int.reduceLE,Int.reduceToNat,Int.reduceEq,Int.reduceNe,Nat.reduceAdd,Int.reduceAdd,Int.reduceSub,Int.reduceMul,Nat.reduceMul,Qp0,Qp1,Ql0,Qe0,zAa,zAb,e0,gg0,e1]
      exact ⟨_, PH.Le.refl _, by trivial, hlq⟩
    have e1 : decide (¬ (b.k : Int) = 1) = false := decide_eq_false (by omega)
    have hgp : ordB (b :: l) = ordL b.g false l := by simp [ordB, hk]
    rw [hgp]
    simp -dsimp -implicitDefEqProofs (disch := first | omega | assumption | (simp only [Option.isSome_some,Qt0]; done) | (simp only [List.length_cons,List.length_nil,List.length_append,Int.toNat_natCast] <;> omega) | fail) only [Nat.reduceLT,Nat.reduceLeDiff,Nat.reduceEqDiff,↓reduceIte,Int.reduceLT,Int.reduceLE,Int.reduceToNat,Int.reduceEq,Int.reduceNe,Nat.reduceAdd,Int.reduceAdd,Int.reduceSub,Int.reduceMul,Nat.reduceMul,Qp0,Qp1,Ql0,Qe0,zAa,zAb,e0,gg0,e1]
    refine zB3 (fun m f h' => ∃ (i : Nat) (e : Bool), m + i = n ∧ f 0 = some (.slice (some ⟨pb, po, none⟩) n c) ∧ f 3 = some (.bool e) ∧ f 16 = some (.slice (some ⟨pb, po, none⟩) n c) ∧ f 17 = some (.int .i64 n) ∧ f 18 = some (.int .i64 i) ∧ PH.Le q h' ∧ w0.heap.size ≤ h'.top ∧ (i = 0 → e = false) ∧ (0 < i → ordL b.g false l = ordL b.g e ((b :: l).drop i))) (by kernel_rfl) n ⟨0, false, by omega, ?_, ?_, ?_, ?_, ?_, PH.Le.refl _, hut, fun _ => rfl, fun h => absurd h (by omega)⟩ ?_
    · simp -dsimp -implicitDefEqProofs (disch := first | omega | assumption | (simp only [Option.isSome_some,Qt0]; done) | (simp only [List.length_cons,List.length_nil,List.length_append,Int.toNat_natCast] <;> omega) | fail) only [Nat.reduceLT,Nat.reduceLeDiff,Nat.reduceEqDiff,↓reduceIte,Int.reduceLT,Int.reduceLE,Int.reduceToNat,Int.reduceEq,Int.reduceNe,Nat.reduceAdd,Int.reduceAdd,Int.reduceSub,Int.reduceMul,Nat.reduceMul,Qp0,Qp1,Ql0,Qe0]
    · simp -dsimp -implicitDefEqProofs (disch := first | omega | assumption | (simp only [Option.isSome_some,Qt0]; done) | (simp only [List.length_cons,List.length_nil,List.length_append,Int.toNat_natCast] <;> omega) | fail) only [Nat.reduceLT,Nat.reduceLeDiff,Nat.reduceEqDiff,↓reduceIte,Int.reduceLT,Int.reduceLE,Int.reduceToNat,Int.reduceEq,Int.reduceNe,Nat.reduceAdd,Int.reduceAdd,Int.reduceSub,Int.reduceMul,Nat.reduceMul,Qp0,Qp1,Ql0,Qe0]
    · simp -dsimp -implicitDefEqProofs (disch := first | omega | assumption | (simp only [Option.isSome_some,Qt0]; done) | (simp only [List.length_cons,List.length_nil,List.length_append,Int.toNat_natCast] <;> omega) | fail) only [Nat.reduceLT,Nat.reduceLeDiff,Nat.reduceEqDiff,↓reduceIte,Int.reduceLT,Int.reduceLE,Int.reduceToNat,Int.reduceEq,Int.reduceNe,Nat.reduceAdd,Int.reduceAdd,Int.reduceSub,Int.reduceMul,Nat.reduceMul,Qp0,Qp1,Ql0,Qe0]
    · simp -dsimp -implicitDefEqProofs (disch := first | omega | assumption | (simp only [Option.isSome_some,Qt0]; done) | (simp only [List.length_cons,List.length_nil,List.length_append,Int.toNat_natCast] <;> omega) | fail) only [Nat.reduceLT,Nat.reduceLeDiff,Nat.reduceEqDiff,↓reduceIte,Int.reduceLT,Int.reduceLE,Int.reduceToNat,Int.reduceEq,Int.reduceNe,Nat.reduceAdd,Int.reduceAdd,Int.reduceSub,Int.reduceMul,Nat.reduceMul,Qp0,Qp1,Ql0,Qe0]
    · simp -dsimp -implicitDefEqProofs (disch := first | omega | assumption | (simp only [Option.isSome_some,Qt0]; done) | (simp only [List.length_cons,List.length_nil,List.length_append,Int.toNat_natCast] <;> omega) | fail) only [Nat.reduceLT,Nat.reduceLeDiff,Nat.reduceEqDiff,↓reduceIte,Int.reduceLT,Int.reduceLE,Int.reduceToNat,Int.reduceEq,Int.reduceNe,Nat.reduceAdd,Int.reduceAdd,Int.reduceSub,Int.reduceMul,Nat.reduceMul,Qp0,Qp1,Ql0,Qe0]
      try rfl
    rintro m f h' ⟨i, e, hmi, f0, f3, f16, f17, f18, hl', hut', hi0, hiL⟩ hlow'
    by_cases hi : i < n
    rotate_left
    · have e2 : decide ((i : Int) < (n : Int)) = false := decide_eq_false (by omega)
      have hL := hiL (by omega)
      rw [List.drop_eq_nil_of_le (by omega)] at hL
      rw [hL]
      simp -dsimp -implicitDefEqProofs (disch := first | omega | assumption | (simp only [Option.isSome_some,Qt0]; done) | (simp only [List.length_cons,List.length_nil,List.length_append,Int.toNat_natCast] <;> omega) | fail) only [Nat.reduceLT,Nat.reduceLeDiff,Nat.reduceEqDiff,↓reduceIte,Int.reduceLT,Int.reduceLE,Int.reduceToNat,Int.reduceEq,Int.reduceNe,Nat.reduceAdd,Int.reduceAdd,Int.reduceSub,Int.reduceMul,Nat.reduceMul,Qp0,Qp1,Ql0,Qe0,f0,f3,f16,f17,f18,e2]
      exact ⟨_, PH.Le.refl _, by first | trivial | rfl, hlq.trans hl'⟩
    have e2 : decide ((i : Int) < (n : Int)) = true := decide_eq_true (by omega)
    obtain ⟨x, hx⟩ : ∃ x, (b :: l)[i]? = some x := ⟨_, List.getElem?_eq_getElem (by omega)⟩
    have hr' := hrq.more hl'
    have hrd := Rv.part hr' hlow' hx
    have ha : allOne (ptL x) := zCr x
    unfold ptL at hrd ha
    have hT : (i : Int).toNat = i := Int.toNat_natCast i
    simp -dsimp -implicitDefEqProofs (disch := first | omega | assumption | (simp only [Option.isSome_some,Qt0]; done) | (simp only [List.length_cons,List.length_nil,List.length_append,Int.toNat_natCast] <;> omega) | fail) only [Nat.reduceLT,Nat.reduceLeDiff,Nat.reduceEqDiff,↓reduceIte,Int.reduceLT,Int.reduceLE,Int.reduceToNat,Int.reduceEq,Int.reduceNe,Nat.reduceAdd,Int.reduceAdd,Int.reduceSub,Int.reduceMul,Nat.reduceMul,Qp0,Qp1,Ql0,Qe0,f0,f3,f16,f17,f18,e2,hrd]
    refine fun xb hxb => ?_
    have hxb' : h'.top ≤ xb := hxb
    obtain ⟨h1, hh1⟩ : ∃ h1, h'.new xb ⟨[.int .i64 x.k, .int .i64 x.g, .int .i64 x.p, str x.t], 4⟩ = h1 := ⟨_, rfl⟩
    have hl1 : PH.Le h' h1 := by rw [← hh1]; exact (PH.Le.refl h').new _ _ hxb
    have hm1 : h1.m xb = some ⟨[.int .i64 x.k, .int .i64 x.g, .int .i64 x.p, str x.t], 4⟩ := by rw [← hh1, PH.new_m, if_pos rfl]
    have hlow1 : Low w0 h1 := by rw [← hh1]; exact hlow'.new (by omega) _
    have ht1 : w0.heap.size ≤ h1.top := by have := hl1.top; omega
    have gg1 : rdM w0 (h1.m pb) pb (po + 1) = some (.int .i64 b.g) := by
      have := Rv.partM (hr'.more hl1) hlow1 (i := 0) (x := b) rfl 1 _ rfl
      simpa using this
    have hq1 := hl'.trans hl1
    simp -dsimp -implicitDefEqProofs (disch := first | omega | assumption | (simp only [Option.isSome_some,Qt0]; done) | (simp only [List.length_cons,List.length_nil,List.length_append,Int.toNat_natCast] <;> omega) | fail) only [Nat.reduceLT,Nat.reduceLeDiff,Nat.reduceEqDiff,↓reduceIte,Int.reduceLT,Int.reduceLE,Int.reduceToNat,Int.reduceEq,Int.reduceNe,Nat.reduceAdd,Int.reduceAdd,Int.reduceSub,Int.reduceMul,Nat.reduceMul,Qp0,Qp1,Ql0,Qe0,f0,f3,f16,f17,f18,List.set_cons_zero,List.set_cons_succ,List.take_zero,List.drop_succ_cons,List.drop_zero,List.drop_nil,List.nil_append,List.append_nil,List.take_succ_cons,ite_true,PH.new_new,hh1]
    have hdr : (b :: l).drop i = x :: (b :: l).drop (i + 1) := by
      rw [List.drop_eq_getElem_cons (by omega)]
      congr 1
      rw [List.getElem?_eq_getElem (by omega)] at hx
      exact Option.some.inj hx
    by_cases hz : i = 0
    · have hxb : x = b := by subst hz; simpa using hx.symm
      have he := hi0 hz
      subst he
      have d1 : decide (¬ (x.g : Int) = (b.g : Int)) = false := decide_eq_false (by rw [hxb]; simp)
      have d2 : decide ((x.k : Int) = 1) = true := decide_eq_true (by rw [hxb]; omega)
      have d3 : decide ((i : Int) > 0) = false := decide_eq_false (by omega)
      have d4 : decide ((x.k : Int) = 3) = false := decide_eq_false (by rw [hxb]; omega)
      have d5 : decide ((x.k : Int) = 4) = false := decide_eq_false (by rw [hxb]; omega)
      refine zA3 8 _ (by kernel_rfl) (by kernel_rfl) (by kernel_rfl) (by kernel_rfl) (by kernel_rfl) (fun c f h hq => by simp only [zAy, zAv, zAw, zAu, zAx] at hq) (PH.Le.refl _).sub ?_
      simp -dsimp -implicitDefEqProofs (disch := first | omega | assumption | (simp only [Option.isSome_some,Qt0]; done) | (simp only [List.length_cons,List.length_nil,List.length_append,Int.toNat_natCast] <;> omega) | fail) only [Nat.reduceLT,Nat.reduceLeDiff,Nat.reduceEqDiff,↓reduceIte,Int.reduceLT,Int.reduceLE,Int.reduceToNat,Int.reduceEq,Int.reduceNe,Nat.reduceAdd,Int.reduceAdd,Int.reduceSub,Int.reduceMul,Nat.reduceMul,Qp0,Qp1,Ql0,Qe0,f0,f3,f16,f17,f18,zAa,zAb,hm1,gg1,d1,d2,d3,d4,d5]
      exact ⟨m - 1, _, by omega, PH.Le.refl _, i + 1, false, by omega, by trivial, by trivial, by trivial, by trivial, by simp, hq1, ht1, fun h => absurd h (by omega), fun _ => by subst hz; simp⟩
    have d3 : decide ((i : Int) > 0) = true := decide_eq_true (by omega)
    have hL := hiL (by omega)
    rw [hdr, ordL] at hL
    by_cases c1 : x.g = b.g
    rotate_left
    · have d1 : decide (¬ (x.g : Int) = (b.g : Int)) = true := decide_eq_true (by omega)
      rw [if_pos (.inl c1)] at hL
      rw [hL]
      refine zA3 8 _ (by kernel_rfl) (by kernel_rfl) (by kernel_rfl) (by kernel_rfl) (by kernel_rfl) (fun c f h hq => by simp only [zAy, zAv, zAw, zAu, zAx] at hq) (PH.Le.refl _).sub ?_
      simp -dsimp -implicitDefEqProofs (disch := first | omega | assumption | (simp only [Option.isSome_some,Qt0]; done) | (simp only [List.length_cons,List.length_nil,List.length_append,Int.toNat_natCast] <;> omega) | fail) only [Nat.reduceLT,Nat.reduceLeDiff,Nat.reduceEqDiff,↓reduceIte,Int.reduceLT,Int.reduceLE,Int.reduceToNat,Int.reduceEq,Int.reduceNe,Nat.reduceAdd,Int.reduceAdd,Int.reduceSub,Int.reduceMul,Nat.reduceMul,Qp0,Qp1,Ql0,Qe0,f0,f3,f16,f17,f18,zAa,zAb,hm1,gg1,d1]
      exact ⟨_, PH.Le.refl _, by first | trivial | rfl, hlq.trans hq1⟩
    have d1 : decide (¬ (x.g : Int) = (b.g : Int)) = false := decide_eq_false (by omega)
    by_cases c2 : x.k = 1
    · have d2 : decide ((x.k : Int) = 1) = true := decide_eq_true (by omega)
      rw [if_pos (.inr (.inl c2))] at hL
      rw [hL]
      refine zA3 8 _ (by kernel_rfl) (by kernel_rfl) (by kernel_rfl) (by kernel_rfl) (by kernel_rfl) (fun c f h hq => by simp only [zAy, zAv, zAw, zAu, zAx] at hq) (PH.Le.refl _).sub ?_
      simp -dsimp -implicitDefEqProofs (disch := first | omega | assumption | (simp only [Option.isSome_some,Qt0]; done) | (simp only [List.length_cons,List.length_nil,List.length_append,Int.toNat_natCast] <;> omega) | fail) only [Nat.reduceLT,Nat.reduceLeDiff,Nat.reduceEqDiff,↓reduceIte,Int.reduceLT,Int.reduceLE,Int.reduceToNat,Int.reduceEq,Int.reduceNe,Nat.reduceAdd,Int.reduceAdd,Int.reduceSub,Int.reduceMul,Nat.reduceMul,Qp0,Qp1,Ql0,Qe0,f0,f3,f16,f17,f18,zAa,zAb,hm1,gg1,d1,d2,d3]
      exact ⟨_, PH.Le.refl _, by first | trivial | rfl, hlq.trans hq1⟩
    have d2 : decide ((x.k : Int) = 1) = false := decide_eq_false (by omega)
    by_cases c3 : x.k = 3
    · have d4 : decide ((x.k : Int) = 3) = true := decide_eq_true (by omega)
      have d5 : decide ((x.k : Int) = 4) = false := decide_eq_false (by omega)
      cases e
      · rw [if_neg (by simp [c1, c3]), Bool.false_or, decide_eq_true c3] at hL
        refine zA3 8 _ (by kernel_rfl) (by kernel_rfl) (by kernel_rfl) (by kernel_rfl) (by kernel_rfl) (fun c f h hq => by simp only [zAy, zAv, zAw, zAu, zAx] at hq) (PH.Le.refl _).sub ?_
        simp -dsimp -implicitDefEqProofs (disch := first | omega | assumption | (simp only [Option.isSome_some,Qt0]; done) | (simp only [List.length_cons,List.length_nil,List.length_append,Int.toNat_natCast] <;> omega) | fail) only [Nat.reduceLT,Nat.reduceLeDiff,Nat.reduceEqDiff,↓reduceIte,Int.reduceLT,Int.reduceLE,Int.reduceToNat,Int.reduceEq,Int.reduceNe,Nat.reduceAdd,Int.reduceAdd,Int.reduceSub,Int.reduceMul,Nat.reduceMul,Qp0,Qp1,Ql0,Qe0,f0,f3,f16,f17,f18,zAa,zAb,hm1,gg1,d1,d2,d3,d4,d5]
        exact ⟨m - 1, _, by omega, PH.Le.refl _, i + 1, true, by omega, by trivial, by trivial, by trivial, by trivial, by simp, hq1, ht1, fun h => absurd h (by omega), fun _ => by exact hL⟩
      · rw [if_pos (.inr (.inr (.inl ⟨c3, rfl⟩)))] at hL
        rw [hL]
        refine zA3 8 _ (by kernel_rfl) (by kernel_rfl) (by kernel_rfl) (by kernel_rfl) (by kernel_rfl) (fun c f h hq => by simp only [zAy, zAv, zAw, zAu, zAx] at hq) (PH.Le.refl _).sub ?_
        simp -dsimp -implicitDefEqProofs (disch := first | omega | assumption | (simp only [Option.isSome_some,Qt0]; done) | (simp only [List.length_cons,List.length_nil,List.length_append,Int.toNat_natCast] <;> omega) | fail) only [Nat.reduceLT,Nat.reduceLeDiff,Nat.reduceEqDiff,↓reduceIte,Int.reduceLT,Int.reduceLE,Int.reduceToNat,Int.reduceEq,Int.reduceNe,Nat.reduceAdd,Int.reduceAdd,Int.reduceSub,Int.reduceMul,Nat.reduceMul,Qp0,Qp1,Ql0,Qe0,f0,f3,f16,f17,f18,zAa,zAb,hm1,gg1,d1,d2,d3,d4,d5]
        exact ⟨_, PH.Le.refl _, by first | trivial | rfl, hlq.trans hq1⟩
    have d4 : decide ((x.k : Int) = 3) = false := decide_eq_false (by omega)
    by_cases c4 : x.k = 4
    · have d5 : decide ((x.k : Int) = 4) = true := decide_eq_true (by omega)
      cases e
      · rw [if_pos (.inr (.inr (.inr ⟨c4, rfl⟩)))] at hL
        rw [hL]
        refine zA3 8 _ (by kernel_rfl) (by kernel_rfl) (by kernel_rfl) (by kernel_rfl) (by kernel_rfl) (fun c f h hq => by simp only [zAy, zAv, zAw, zAu, zAx] at hq) (PH.Le.refl _).sub ?_
        simp -dsimp -implicitDefEqProofs (disch := first | omega | assumption | (simp only [Option.isSome_some,Qt0]; done) | (simp only [List.length_cons,List.length_nil,List.length_append,Int.toNat_natCast] <;> omega) | fail) only [Nat.reduceLT,Nat.reduceLeDiff,Nat.reduceEqDiff,↓reduceIte,Int.reduceLT,Int.reduceLE,Int.reduceToNat,Int.reduceEq,Int.reduceNe,Nat.reduceAdd,Int.reduceAdd,Int.reduceSub,Int.reduceMul,Nat.reduceMul,Qp0,Qp1,Ql0,Qe0,f0,f3,f16,f17,f18,zAa,zAb,hm1,gg1,d1,d2,d3,d4,d5]
        exact ⟨_, PH.Le.refl _, by first | trivial | rfl, hlq.trans hq1⟩
      · rw [if_neg (by simp [c1, c4]), Bool.true_or] at hL
        refine zA3 8 _ (by kernel_rfl) (by kernel_rfl) (by kernel_rfl) (by kernel_rfl) (by kernel_rfl) (fun c f h hq => by simp only [zAy, zAv, zAw, zAu, zAx] at hq) (PH.Le.refl _).sub ?_
        simp -dsimp -implicitDefEqProofs (disch := first | omega | assumption | (simp only [Option.isSome_some,Qt0]; done) | (simp only [List.length_cons,List.length_nil,List.length_append,Int.toNat_natCast] <;> omega) | fail) only [Nat.reduceLT,Nat.reduceLeDiff,Nat.reduceEqDiff,↓reduceIte,Int.reduceLT,Int.reduceLE,Int.reduceToNat,Int.reduceEq,Int.reduceNe,Nat.reduceAdd,Int.reduceAdd,Int.reduceSub,Int.reduceMul,Nat.reduceMul,Qp0,Qp1,Ql0,Qe0,f0,f3,f16,f17,f18,zAa,zAb,hm1,gg1,d1,d2,d3,d4,d5]
        exact ⟨m - 1, _, by omega, PH.Le.refl _, i + 1, true, by omega, by trivial, by trivial, by trivial, by trivial, by simp, hq1, ht1, fun h => absurd h (by omega), fun _ => by exact hL⟩
    have d5 : decide ((x.k : Int) = 4) = false := decide_eq_false (by omega)
    rw [if_neg (by simp [c1, c2, c3, c4]), decide_eq_false c3, Bool.or_false] at hL
    refine zA3 8 _ (by kernel_rfl) (by kernel_rfl) (by kernel_rfl) (by kernel_rfl) (by kernel_rfl) (fun c f h hq => by simp only [zAy, zAv, zAw, zAu, zAx] at hq) (PH.Le.refl _).sub ?_
    simp -dsimp -implicitDefEqProofs (disch := first | omega | assumption | (simp only [Option.isSome_some,Qt0]; done) | (simp only [List.length_cons,List.length_nil,List.length_append,Int.toNat_natCast] <;> omega) | fail) only [Nat.reduceLT,Nat.reduceLeDiff,Nat.reduceEqDiff,↓reduceIte,Int.reduceLT,Int.reduceLE,Int.reduceToNat,Int.reduceEq,Int.reduceNe,Nat.reduceAdd,Int.reduceAdd,Int.reduceSub,Int.reduceMul,Nat.reduceMul,Qp0,Qp1,Ql0,Qe0,f0,f3,f16,f17,f18,zAa,zAb,hm1,gg1,d1,d2,d3,d4,d5]
    exact ⟨m - 1, _, by omega, PH.Le.refl _, i + 1, e, by omega, by trivial, by trivial, by trivial, by trivial, by simp, hq1, ht1, fun h => absurd h (by omega), fun _ => by exact hL⟩
end Go.Proofs.Ytblikpbaeippaaa


namespace Go.Proofs.Ytblikpbaeippaaa
set_option linter.unusedVariables false
set_option linter.unusedSimpArgs false
open Go.RowKit Px
section
variable (w0 : World) (h : PH)
set_option maxRecDepth 20000 in
set_option maxHeartbeats 1000000 in
theorem op_nil  : PCalls Try.prog w0 51 [.pointer none] h fun v h' => EV h' (.wrap blockT 0 (.code 5)) v ∧ ∃ be, h.top ≤ be ∧ h' = h.new be ⟨[str blockT, .int .i64 0, codeV 5], 3⟩ := by
  refine zAp Try.func51 (by kernel_rfl) rfl _ Try.ntmps51 (by kernel_rfl) (by kernel_rfl) _ Try.results51 ?_
  have hD := Lib.hid (down_nil w0 h)
  have hB := Lib.hid (bad_nil w0 h 5)
  simp -dsimp -implicitDefEqProofs (disch := first | omega | assumption | (simp only [Option.isSome_some,Qt0]; done) | (simp only [List.length_cons,List.length_nil,List.length_append,Int.toNat_natCast] <;> omega) | fail) only [Nat.reduceLT,Nat.reduceLeDiff,Nat.reduceEqDiff,↓reduceIte,Int.reduceLT,Int.reduceLE,Int.reduceToNat,Int.reduceEq,Int.reduceNe,Nat.reduceAdd,Int.reduceAdd,Int.reduceSub,Int.reduceMul,Nat.reduceMul,Qp0,Qp1,Ql0,Qe0]
  refine hD.out.mono ?_
  rintro v hz ⟨rfl, hz⟩
  rw [hz]
  clear hz
  simp -dsimp -implicitDefEqProofs (disch := first | omega | assumption | (simp only [Option.isSome_some,Qt0]; done) | (simp only [List.length_cons,List.length_nil,List.length_append,Int.toNat_natCast] <;> omega) | fail) only [Nat.reduceLT,Nat.reduceLeDiff,Nat.reduceEqDiff,↓reduceIte,Int.reduceLT,Int.reduceLE,Int.reduceToNat,Int.reduceEq,Int.reduceNe,Nat.reduceAdd,Int.reduceAdd,Int.reduceSub,Int.reduceMul,Nat.reduceMul,Qp0,Qp1,Ql0,Qe0]
  refine hB.out.mono ?_
  rintro v hz ⟨be, rfl, hbe, rfl⟩
  simp -dsimp -implicitDefEqProofs (disch := first | omega | assumption | (simp only [Option.isSome_some,Qt0]; done) | (simp only [List.length_cons,List.length_nil,List.length_append,Int.toNat_natCast] <;> omega) | fail) only [Nat.reduceLT,Nat.reduceLeDiff,Nat.reduceEqDiff,↓reduceIte,Int.reduceLT,Int.reduceLE,Int.reduceToNat,Int.reduceEq,Int.reduceNe,Nat.reduceAdd,Int.reduceAdd,Int.reduceSub,Int.reduceMul,Nat.reduceMul,Qp0,Qp1,Ql0,Qe0]
  exact ⟨_, PH.Le.refl _, EV.at (show EV _ (.code 5) (codeV 5) from rfl) hbe, be, hbe, rfl⟩
set_option maxRecDepth 20000 in
set_option maxHeartbeats 1000000 in
theorem append_nil (s : List UInt8) : PCalls Try.prog w0 53 [.pointer none, str s] h fun v h' => EV h' (.wrap blockT 0 (.code 5)) v ∧ PH.Le h h' := by
  refine zAp Try.func53 (by kernel_rfl) rfl _ Try.ntmps53 (by kernel_rfl) (by kernel_rfl) _ Try.results53 ?_
  have hD := Lib.hid (down_nil w0 h)
  have hO := Lib.hid (op_nil w0 h)
  simp -dsimp -implicitDefEqProofs (disch := first | omega | assumption | (simp only [Option.isSome_some,Qt0]; done) | (simp only [List.length_cons,List.length_nil,List.length_append,Int.toNat_natCast] <;> omega) | fail) only [Nat.reduceLT,Nat.reduceLeDiff,Nat.reduceEqDiff,↓reduceIte,Int.reduceLT,Int.reduceLE,Int.reduceToNat,Int.reduceEq,Int.reduceNe,Nat.reduceAdd,Int.reduceAdd,Int.reduceSub,Int.reduceMul,Nat.reduceMul,Qp0,Qp1,Ql0,Qe0]
  refine zBt [0, 1, 2, 3, 4, 5, 6, 7, 8, 9, 10, 11, 12, 13, 14, 15, 16, 17] h (by kernel_rfl) (by decide +kernel) (by kernel_rfl) (by kernel_rfl) (by kernel_rfl) (fun c f h hq => by simp only [zAy, zAv, zAw, zAu, zAx] at hq) (PH.Le.refl _).sub ?_
  simp -dsimp -implicitDefEqProofs (disch := first | omega | assumption | (simp only [Option.isSome_some,Qt0]; done) | (simp only [List.length_cons,List.length_nil,List.length_append,Int.toNat_natCast] <;> omega) | fail) only [Nat.reduceLT,Nat.reduceLeDiff,Nat.reduceEqDiff,↓reduceIte,Int.reduceLT,Int.reduceLE,Int.reduceToNat,Int.reduceEq,Int.reduceNe,Nat.reduceAdd,Int.reduceAdd,Int.reduceSub,Int.reduceMul,Nat.reduceMul,Qp0,Qp1,Ql0,Qe0]
  refine hD.out.mono ?_
  rintro v hz ⟨rfl, hz⟩
  rw [hz]
  clear hz
  simp -dsimp -implicitDefEqProofs (disch := first | omega | assumption | (simp only [Option.isSome_some,Qt0]; done) | (simp only [List.length_cons,List.length_nil,List.length_append,Int.toNat_natCast] <;> omega) | fail) only [Nat.reduceLT,Nat.reduceLeDiff,Nat.reduceEqDiff,↓reduceIte,Int.reduceLT,Int.reduceLE,Int.reduceToNat,Int.reduceEq,Int.reduceNe,Nat.reduceAdd,Int.reduceAdd,Int.reduceSub,Int.reduceMul,Nat.reduceMul,Qp0,Qp1,Ql0,Qe0]
  refine ⟨(PH.Le.refl _).sub, ?_⟩
  simp -dsimp -implicitDefEqProofs (disch := first | omega | assumption | (simp only [Option.isSome_some,Qt0]; done) | (simp only [List.length_cons,List.length_nil,List.length_append,Int.toNat_natCast] <;> omega) | fail) only [Nat.reduceLT,Nat.reduceLeDiff,Nat.reduceEqDiff,↓reduceIte,Int.reduceLT,Int.reduceLE,Int.reduceToNat,Int.reduceEq,Int.reduceNe,Nat.reduceAdd,Int.reduceAdd,Int.reduceSub,Int.reduceMul,Nat.reduceMul,Qp0,Qp1,Ql0,Qe0]
  refine hO.out.mono ?_
  rintro v hz ⟨hev, be, hbe, rfl⟩
  obtain ⟨t, x, rfl⟩ := hev.held
  simp -dsimp -implicitDefEqProofs (disch := first | omega | assumption | (simp only [Option.isSome_some,Qt0]; done) | (simp only [List.length_cons,List.length_nil,List.length_append,Int.toNat_natCast] <;> omega) | fail) only [Nat.reduceLT,Nat.reduceLeDiff,Nat.reduceEqDiff,↓reduceIte,Int.reduceLT,Int.reduceLE,Int.reduceToNat,Int.reduceEq,Int.reduceNe,Nat.reduceAdd,Int.reduceAdd,Int.reduceSub,Int.reduceMul,Nat.reduceMul,Qp0,Qp1,Ql0,Qe0]
  exact ⟨_, PH.Le.refl _, hev, (PH.Le.refl _).new _ _ hbe⟩
set_option maxRecDepth 20000 in
theorem new_ok (n : Int) (hn : 0 ≤ n ∧ n ≤ 1048576) : PCalls Try.prog w0 23 [.int .i64 n] h fun v h' => ∃ b, v = .tuple #[.pointer (some ⟨b, 0, none⟩), .nilIface] ∧ DS h h' b ⟨[], 0, n, -1, false⟩ := by
  refine zAp Try.func23 (by kernel_rfl) rfl _ Try.ntmps23 (by kernel_rfl) (by kernel_rfl) _ Try.results23 ?_
  simp -dsimp -implicitDefEqProofs (disch := first | omega | assumption | (simp only [Option.isSome_some,Qt0]; done) | (simp only [List.length_cons,List.length_nil,List.length_append,Int.toNat_natCast] <;> omega) | fail) only [Nat.reduceLT,Nat.reduceLeDiff,Nat.reduceEqDiff,↓reduceIte,Int.reduceLT,Int.reduceLE,Int.reduceToNat,Int.reduceEq,Int.reduceNe,Nat.reduceAdd,Int.reduceAdd,Int.reduceSub,Int.reduceMul,Nat.reduceMul,Qp0,Qp1,Ql0,Qe0]
  refine fun b hb => ?_
  have hds : DS h (h.new b ⟨DKc none 0 ⟨[], 0, 0, -1, false⟩, 5⟩) b ⟨[], 0, 0, -1, false⟩ := ⟨by simp only [PH.new_top]; omega, h.gone hb, fun x k e => by rw [PH.new_m, if_neg (by have := h.lt _ _ e; omega)]; exact e, none, 0, by rw [PH.new_m, if_pos rfl], .inl ⟨rfl, rfl, rfl⟩, fun a e => by cases e⟩
  have hR := Lib.hid (room_any h b ⟨[], 0, 0, -1, false⟩ w0 _ hds n hn)
  unfold DKc at hR
  simp -dsimp -implicitDefEqProofs (disch := first | omega | assumption | (simp only [Option.isSome_some,Qt0]; done) | (simp only [List.length_cons,List.length_nil,List.length_append,Int.toNat_natCast] <;> omega) | fail) only [Nat.reduceLT,Nat.reduceLeDiff,Nat.reduceEqDiff,↓reduceIte,Int.reduceLT,Int.reduceLE,Int.reduceToNat,Int.reduceEq,Int.reduceNe,Nat.reduceAdd,Int.reduceAdd,Int.reduceSub,Int.reduceMul,Nat.reduceMul,Qp0,Qp1,Ql0,Qe0]
  refine hR.out.mono ?_
  rintro v h2 ⟨rfl, hds2⟩
  simp -dsimp -implicitDefEqProofs (disch := first | omega | assumption | (simp only [Option.isSome_some,Qt0]; done) | (simp only [List.length_cons,List.length_nil,List.length_append,Int.toNat_natCast] <;> omega) | fail) only [Nat.reduceLT,Nat.reduceLeDiff,Nat.reduceEqDiff,↓reduceIte,Int.reduceLT,Int.reduceLE,Int.reduceToNat,Int.reduceEq,Int.reduceNe,Nat.reduceAdd,Int.reduceAdd,Int.reduceSub,Int.reduceMul,Nat.reduceMul,Qp0,Qp1,Ql0,Qe0]
  exact ⟨_, PH.Le.refl _, b, rfl, hds2⟩
end
theorem Dk.append_ok {d : Dk} {s : List UInt8} (hd : d.down = false) (hf : d.fuse < 0) (h : (s.length : Int) ≤ d.room - d.l.length) : d.append s = ({ d with l := d.l ++ s }, none) := by
  have ho : d.op = (d, true) := by unfold Dk.op; rw [if_neg (by rw [hd]; decide), if_pos hf]
  unfold Dk.append
  rw [if_neg (by omega), ho, if_pos rfl]
theorem DS.le {h0 h : PH} {b : Nat} {d : Dk} (hd : DS h0 h b d) : PH.Le h0 h := ⟨hd.top, hd.same⟩
end Go.Proofs.Ytblikpbaeippaaa


namespace Go.Proofs.Ytblikpbaeippaaa
set_option linter.unusedVariables false
set_option linter.unusedSimpArgs false
open Go.RowKit Px Wr
def Px.PH.gap (h : PH) (F : Nat → Bool) : PH := ⟨h.top, fun x => if F x = true then none else h.m x, fun b k e => by
  split at e
  · cases e
  · exact h.lt b k e⟩
theorem Px.PH.gap_m (h : PH) (F : Nat → Bool) (x : Nat) : (h.gap F).m x = if F x = true then none else h.m x := rfl
theorem Px.PH.gap_le (h : PH) (F : Nat → Bool) : PH.Le (h.gap F) h := ⟨Nat.le_refl _, fun b k e => by
  rw [PH.gap_m] at e
  split at e
  · cases e
  · exact e⟩
theorem Ro.more {h h' : PH} {A : Option Addr} {l : List UInt8} {c : Nat} (r : Ro h A l c) (hl : PH.Le h h') : Ro h' A l c := by
  rcases r with h1 | ⟨b, X, lim, rfl, h1, h2, h3, h4, h5, h6⟩
  · exact .inl h1
  · exact .inr ⟨b, X, lim, rfl, h1, h2, hl.m _ _ h3, h4, h5, h6⟩
theorem Ro.known {h : PH} {A : Option Addr} {l : List UInt8} {c : Nat} (r : Ro h A l c) {a : Addr} (e : A = some a) : ∃ k, h.m a.block = some k := by
  rcases r with ⟨h1, _⟩ | ⟨b, X, lim, rfl, h1, h2, h3, h4, h5, h6⟩
  · rw [h1] at e; cases e
  · cases e; exact ⟨_, h3⟩
theorem DS.mono {h0 h h' : PH} {b : Nat} {d : Dk} (hd : DS h0 h b d) (hl : PH.Le h h') : DS h0 h' b d := by
  obtain ⟨A, c, hb, hr, hA⟩ := hd.cells
  exact ⟨Nat.le_trans hd.top hl.top, hd.low, fun x k e => hl.m _ _ (hd.same x k e), A, c, hl.m _ _ hb, hr.more hl, hA⟩
theorem DS.le2' {h0 h : PH} {b : Nat} {d : Dk} (hd : DS h0 h b d) : PH.Le h0 h := ⟨hd.top, hd.same⟩
structure D2 (h0 h : PH) (a : Nat) (da : Dk) (b : Nat) (db : Dk) : Prop where
  top : h0.top ≤ h.top
  same : ∀ x k, h0.m x = some k → h.m x = some k
  ne : a ≠ b
  lowa : h0.m a = none
  lowb : h0.m b = none
  cells : ∃ A c B e, h.m a = some ⟨DKc A c da, 5⟩ ∧ Ro h A da.l c ∧ h.m b = some ⟨DKc B e db, 5⟩ ∧ Ro h B db.l e ∧
    (∀ x, A = some x → h0.m x.block = none ∧ x.block ≠ a ∧ x.block ≠ b) ∧ (∀ x, B = some x → h0.m x.block = none ∧ x.block ≠ a ∧ x.block ≠ b) ∧ ∀ x y, A = some x → B = some y → x.block ≠ y.block
section
variable {h0 h h' : PH} {a b : Nat} {da db da' : Dk}
theorem D2.symm (hd : D2 h0 h a da b db) : D2 h0 h b db a da := by
  obtain ⟨A, c, B, e, h1, h2, h3, h4, h5, h6, h7⟩ := hd.cells
  exact ⟨hd.top, hd.same, hd.ne.symm, hd.lowb, hd.lowa, B, e, A, c, h3, h4, h1, h2, fun x q => ⟨(h6 x q).1, (h6 x q).2.2, (h6 x q).2.1⟩, fun x q => ⟨(h5 x q).1, (h5 x q).2.2, (h5 x q).2.1⟩, fun x y p q r => h7 y x q p r.symm⟩
theorem D2.le (hd : D2 h0 h a da b db) : PH.Le h0 h := ⟨hd.top, hd.same⟩
theorem D2.mono (hd : D2 h0 h a da b db) (hl : PH.Le h h') : D2 h0 h' a da b db := by
  obtain ⟨A, c, B, e, h1, h2, h3, h4, h5, h6, h7⟩ := hd.cells
  exact ⟨Nat.le_trans hd.top hl.top, fun x k e => hl.m _ _ (hd.same x k e), hd.ne, hd.lowa, hd.lowb, A, c, B, e, hl.m _ _ h1, h2.more hl, hl.m _ _ h3, h4.more hl, h5, h6, h7⟩
theorem D2.base' {h00 : PH} (hd : D2 h0 h a da b db) (hl : PH.Le h00 h0) : D2 h00 h a da b db := by
  obtain ⟨A, c, B, e, h1, h2, h3, h4, h5, h6, h7⟩ := hd.cells
  have hn : ∀ x, h0.m x = none → h00.m x = none := fun x q => by
    cases hk : h00.m x with
    | none => rfl
    | some k => rw [hl.m _ _ hk] at q; cases q
  exact ⟨Nat.le_trans hl.top hd.top, fun x k e => hd.same x k (hl.m _ _ e), hd.ne, hn _ hd.lowa, hn _ hd.lowb, A, c, B, e, h1, h2, h3, h4, fun x q => ⟨hn _ (h5 x q).1, (h5 x q).2⟩, fun x q => ⟨hn _ (h6 x q).1, (h6 x q).2⟩, h7⟩
theorem D2.base {h00 : PH} (hd : D2 h0 h a da b db) (hl : PH.Le h00 h0) : D2 h00 h a da b db := hd.base' hl
theorem D2.use2 (hd : D2 h0 h a da b db) : ∃ h1, DS h1 h a da ∧ PH.Le h1 h ∧ PH.Le h0 h1 ∧ h1.top = h.top ∧ (∀ x k, h.m x = some k → h0.m x = some k → h1.m x = some k) ∧ (∀ h2 h' da', PH.Le h1 h2 → DS h2 h' a da' → ∃ h3, PH.Le h0 h3 ∧ PH.Le h3 h' ∧ D2 h3 h' a da' b db ∧ h2.top ≤ h3.top ∧ ∀ x k, h.top ≤ x → h2.m x = some k → h3.m x = some k) ∧
    ∀ xb k0 k' h' da', h0.m xb = some k0 → DS (h1.new xb k') h' a da' → D2 (h0.new xb k') h' a da' b db := by
  obtain ⟨A, c, B, e, h1, h2, h3, h4, h5, h6, h7⟩ := hd.cells
  obtain ⟨F, hF⟩ : ∃ F : Nat → Bool, F = fun x => decide (x = a) || decide (A.map (·.block) = some x) := ⟨_, rfl⟩
  have hFt : ∀ x, F x = true → (x = a ∨ ∃ y, A = some y ∧ y.block = x) := fun x q => by
    rw [hF] at q
    simp only [Bool.or_eq_true, decide_eq_true_eq] at q
    rcases q with q | q
    · exact .inl q
    · obtain ⟨y, hy, hyb⟩ := Option.map_eq_some_iff.1 q
      exact .inr ⟨y, hy, hyb⟩
  have hF0 : ∀ x k, h0.m x = some k → ¬ F x = true := fun x k q r => by
    rcases hFt x r with rfl | ⟨y, hy, rfl⟩
    · rw [hd.lowa] at q; cases q
    · rw [(h5 y hy).1] at q; cases q
  have hFa : F a = true := by rw [hF]; simp
  have hFA : ∀ y, A = some y → F y.block = true := fun y hy => by rw [hF]; subst hy; simp
  have hFb : ¬ F b = true := fun r => by
    rcases hFt b r with q | ⟨y, hy, q⟩
    · exact hd.ne q.symm
    · exact (h5 y hy).2.2 q
  have hFB : ∀ y, B = some y → ¬ F y.block = true := fun y hy r => by
    rcases hFt _ r with q | ⟨z, hz, q⟩
    · exact (h6 y hy).2.1 q
    · exact h7 z y hz hy q
  have hgap : ∀ x, (h.gap F).m x = if F x = true then none else h.m x := fun x => rfl
  have hle0 : PH.Le h0 (h.gap F) := ⟨hd.top, fun x k q => by rw [hgap, if_neg (hF0 x k q)]; exact hd.same x k q⟩
  have hbk : (h.gap F).m b = some ⟨DKc B e db, 5⟩ := by rw [hgap, if_neg hFb]; exact h3
  have hBk : ∀ y, B = some y → ∃ k, h.m y.block = some k ∧ (h.gap F).m y.block = some k := fun y hy => by
    obtain ⟨k, hk⟩ := h4.known hy
    exact ⟨k, hk, by rw [hgap, if_neg (hFB y hy)]; exact hk⟩
  refine ⟨h.gap F, ⟨Nat.le_refl _, by rw [hgap, if_pos hFa], (PH.gap_le _ _).m, A, c, h1, h2, fun x q => ⟨by rw [hgap, if_pos (hFA x q)], (h5 x q).2.1⟩⟩, PH.gap_le _ _, hle0, rfl, fun x k q r => hle0.m x k r, fun hx h' da' hl hd' => ?_, fun xb k0 k' h' da' hx0 hd' => ?_⟩
  · obtain ⟨A', c', g1, g2, g3⟩ := hd'.cells
    obtain ⟨G, hG⟩ : ∃ G : Nat → Bool, G = fun x => decide (x = b) || decide (B.map (·.block) = some x) := ⟨_, rfl⟩
    have hGt : ∀ x, G x = true → (x = b ∨ ∃ y, B = some y ∧ y.block = x) := fun x q => by
      rw [hG] at q
      simp only [Bool.or_eq_true, decide_eq_true_eq] at q
      rcases q with q | q
      · exact .inl q
      · obtain ⟨y, hy, hyb⟩ := Option.map_eq_some_iff.1 q
        exact .inr ⟨y, hy, hyb⟩
    have hGlt : ∀ x, G x = true → x < h.top ∧ h0.m x = none := fun x r => by
      rcases hGt x r with rfl | ⟨y, hy, rfl⟩
      · exact ⟨h.lt _ _ h3, hd.lowb⟩
      · obtain ⟨k, hk⟩ := h4.known hy
        exact ⟨h.lt _ _ hk, (h6 y hy).1⟩
    have hGb : G b = true := by rw [hG]; simp
    have hGB : ∀ y, B = some y → G y.block = true := fun y hy => by rw [hG]; subst hy; simp
    have hg2 : ∀ x, (hx.gap G).m x = if G x = true then none else hx.m x := fun x => rfl
    have hn : ∀ x, hx.m x = none → (hx.gap G).m x = none := fun x q => by rw [hg2]; split; rfl; exact q
    have hb' := hd'.same _ _ (hl.m _ _ hbk)
    have hB' : ∀ y, B = some y → h'.m y.block = h.m y.block := fun y hy => by
      obtain ⟨k, q1, q2⟩ := hBk y hy
      rw [q1, hd'.same _ _ (hl.m _ _ q2)]
    refine ⟨hx.gap G, ⟨Nat.le_trans hle0.top hl.top, fun x k q => ?_⟩, (PH.gap_le _ _).trans hd'.le2', ⟨hd'.top, fun x k q => hd'.same x k ((PH.gap_le _ _).m _ _ q), hd.ne, hn _ hd'.low, by rw [hg2, if_pos hGb], A', c', B, e, g1, g2, hb', h4.same hB', fun x q => ⟨hn _ (g3 x q).1, (g3 x q).2, fun r => ?_⟩, fun x q => ⟨by rw [hg2, if_pos (hGB x q)], (h6 x q).2⟩, fun x y hx' hy r => ?_⟩, Nat.le_refl _, fun x k q1 q2 => ?_⟩
    · rw [hg2, if_neg fun r => by rw [(hGlt x r).2] at q; cases q]
      exact hl.m _ _ (hle0.m _ _ q)
    · have := (g3 x q).1
      rw [r, hl.m _ _ hbk] at this; cases this
    · obtain ⟨k, q1, q2⟩ := hBk y hy
      have := (g3 x hx').1
      rw [r, hl.m _ _ q2] at this; cases this
    · rw [hg2, if_neg fun r => by have := (hGlt x r).1; omega]
      exact q2
  · obtain ⟨A', c', g1, g2, g3⟩ := hd'.cells
    have hxF := hF0 xb k0 hx0
    have hxb : ¬ b = xb := fun r => by rw [← r, hd.lowb] at hx0; cases hx0
    have hxB : ∀ y, B = some y → ¬ y.block = xb := fun y hy r => by rw [← r, (h6 y hy).1] at hx0; cases hx0
    have hxa : ¬ a = xb := fun r => by rw [← r, hd.lowa] at hx0; cases hx0
    have hN : ∀ x, ¬ x = xb → ((h.gap F).new xb k').m x = (h.gap F).m x := fun x q => by rw [PH.new_m, if_neg q]
    have hN0 : ∀ x, ¬ x = xb → (h0.new xb k').m x = h0.m x := fun x q => by rw [PH.new_m, if_neg q]
    have hle0' : PH.Le (h0.new xb k') ((h.gap F).new xb k') := ⟨by simp only [PH.new_top]; have := hle0.top; omega, fun x k q => by
      by_cases r : x = xb
      · rw [PH.new_m, if_pos r] at q ⊢; exact q
      · rw [hN0 x r] at q; rw [hN x r]; exact hle0.m x k q⟩
    have hn0 : ∀ x, ((h.gap F).new xb k').m x = none → (h0.new xb k').m x = none := fun x q => by
      cases hk : (h0.new xb k').m x with
      | none => rfl
      | some k => rw [hle0'.m _ _ hk] at q; cases q
    have hb' := hd'.same b _ (by rw [hN b hxb]; exact hbk)
    refine ⟨Nat.le_trans hle0'.top hd'.top, fun x k q => hd'.same x k (hle0'.m x k q), hd.ne, by rw [hN0 a hxa]; exact hd.lowa, by rw [hN0 b hxb]; exact hd.lowb, A', c', B, e, g1, g2, hb', h4.same fun y hy => ?_, fun x q => ⟨hn0 _ (g3 x q).1, (g3 x q).2, fun r => ?_⟩, fun x q => ⟨by rw [hN0 _ (hxB x q)]; exact (h6 x q).1, (h6 x q).2⟩, fun x y hx' hy r => ?_⟩
    · obtain ⟨k, q1, q2⟩ := hBk y hy
      rw [q1, hd'.same _ _ (by rw [hN _ (hxB y hy)]; exact q2)]
    · have := (g3 x q).1
      rw [r, hN b hxb, hbk] at this; cases this
    · obtain ⟨k, q1, q2⟩ := hBk y hy
      have := (g3 x hx').1
      rw [r, hN _ (hxB y hy), q2] at this; cases this
theorem D2.use (hd : D2 h0 h a da b db) : ∃ h1, DS h1 h a da ∧ PH.Le h1 h ∧ ∀ h' da', DS h1 h' a da' → D2 h0 h' a da' b db := by
  obtain ⟨h1, q1, q2, q3, q4, q5, q6, q7⟩ := hd.use2
  refine ⟨h1, q1, q2, fun h' da' e => ?_⟩
  obtain ⟨h3, r1, r2, r3, _, r4⟩ := q6 h1 h' da' (PH.Le.refl _) e
  exact r3.base' r1
theorem D2.grow (hd : D2 h0 h a da b db) (hl : PH.Le h h') : ∃ h1, D2 h1 h' a da b db ∧ PH.Le h0 h1 ∧ PH.Le h1 h' ∧ h1.top = h'.top ∧ ∀ x k, h.top ≤ x → h'.m x = some k → h1.m x = some k := by
  obtain ⟨A, c, B, e, h1, h2, h3, h4, h5, h6, h7⟩ := hd.cells
  have key : ∀ x, (decide (x = a) || decide (x = b) || decide (A.map (·.block) = some x) || decide (B.map (·.block) = some x)) = true → h0.m x = none ∧ x < h.top := fun x q => by
    simp only [Bool.or_eq_true, decide_eq_true_eq] at q
    rcases q with ((q | q) | q) | q
    · rw [q]; exact ⟨hd.lowa, h.lt _ _ h1⟩
    · rw [q]; exact ⟨hd.lowb, h.lt _ _ h3⟩
    · obtain ⟨y, hy, hyb⟩ := Option.map_eq_some_iff.1 q
      obtain ⟨k, hk⟩ := h2.known hy
      rw [← hyb]; exact ⟨(h5 y hy).1, h.lt _ _ hk⟩
    · obtain ⟨y, hy, hyb⟩ := Option.map_eq_some_iff.1 q
      obtain ⟨k, hk⟩ := h4.known hy
      rw [← hyb]; exact ⟨(h6 y hy).1, h.lt _ _ hk⟩
  refine ⟨h'.gap fun x => decide (x = a) || decide (x = b) || decide (A.map (·.block) = some x) || decide (B.map (·.block) = some x), ⟨Nat.le_refl _, (PH.gap_le _ _).m, hd.ne, by rw [PH.gap_m]; simp, by rw [PH.gap_m]; simp, A, c, B, e, hl.m _ _ h1, h2.more hl, hl.m _ _ h3, h4.more hl, fun x q => ⟨?_, (h5 x q).2⟩, fun x q => ⟨?_, (h6 x q).2⟩, h7⟩, ⟨Nat.le_trans hd.top hl.top, fun x k q => ?_⟩, PH.gap_le _ _, rfl, fun x k q1 q2 => ?_⟩
  · rw [PH.gap_m]; subst q; simp
  · rw [PH.gap_m]; subst q; simp
  · rw [PH.gap_m, if_neg fun r => by rw [(key x r).1] at q; cases q]
    exact hl.m _ _ (hd.same x k q)
  · rw [PH.gap_m, if_neg fun r => by have := (key x r).2; omega]
    exact q2
theorem DS.grow {b : Nat} {d : Dk} (hd : DS h0 h b d) (hl : PH.Le h h') : ∃ h1, DS h1 h' b d ∧ PH.Le h0 h1 ∧ PH.Le h1 h' ∧ h1.top = h'.top ∧ ∀ x k, h.top ≤ x → h'.m x = some k → h1.m x = some k := by
  obtain ⟨A, c, h1, h2, h5⟩ := hd.cells
  have key : ∀ x, (decide (x = b) || decide (A.map (·.block) = some x)) = true → h0.m x = none ∧ x < h.top := fun x q => by
    simp only [Bool.or_eq_true, decide_eq_true_eq] at q
    rcases q with q | q
    · rw [q]; exact ⟨hd.low, h.lt _ _ h1⟩
    · obtain ⟨y, hy, hyb⟩ := Option.map_eq_some_iff.1 q
      obtain ⟨k, hk⟩ := h2.known hy
      rw [← hyb]; exact ⟨(h5 y hy).1, h.lt _ _ hk⟩
  refine ⟨h'.gap fun x => decide (x = b) || decide (A.map (·.block) = some x), ⟨Nat.le_refl _, by rw [PH.gap_m]; simp, (PH.gap_le _ _).m, A, c, hl.m _ _ h1, h2.more hl, fun x q => ⟨?_, (h5 x q).2⟩⟩, ⟨Nat.le_trans hd.top hl.top, fun x k q => ?_⟩, PH.gap_le _ _, rfl, fun x k q1 q2 => ?_⟩
  · rw [PH.gap_m]; subst q; simp
  · rw [PH.gap_m, if_neg fun r => by rw [(key x r).1] at q; cases q]
    exact hl.m _ _ (hd.same x k q)
  · rw [PH.gap_m, if_neg fun r => by have := (key x r).2; omega]
    exact q2
theorem D2.new {x : Nat} {k : Bk} (hd : D2 h0 h a da b db) (hx : h.top ≤ x) : D2 (h0.new x k) (h.new x k) a da b db := by
  have hd' := hd.mono ((PH.Le.refl h).new x k hx)
  obtain ⟨A, c, B, e, h1, h2, h3, h4, h5, h6, h7⟩ := hd.cells
  obtain ⟨A', c', B', e', h1', h2', h3', h4', h5', h6', h7'⟩ := hd'.cells
  have hn : ∀ y, h.m y ≠ none → h0.m y = none → (h0.new x k).m y = none := fun y q1 q2 => by
    rw [PH.new_m, if_neg]
    · exact q2
    · intro q
      subst q
      exact q1 (h.gone hx)
  have ka : (h.new x k).m a = h.m a := by rw [PH.new_m, if_neg (by have := h.lt _ _ h1; omega)]
  refine ⟨?_, fun y j q => ?_, hd.ne, hn _ (by rw [h1]; simp) hd.lowa, hn _ (by rw [h3]; simp) hd.lowb, A, c, B, e, ?_, h2.more ((PH.Le.refl h).new x k hx), ?_, h4.more ((PH.Le.refl h).new x k hx), fun y q => ⟨hn _ ?_ (h5 y q).1, (h5 y q).2⟩, fun y q => ⟨hn _ ?_ (h6 y q).1, (h6 y q).2⟩, h7⟩
  · simp only [PH.new_top]; have := hd.top; omega
  · rw [PH.new_m] at q ⊢
    split
    · rename_i e; rw [if_pos e] at q; exact q
    · rename_i e; rw [if_neg e] at q; exact hd.same y j q
  · exact ((PH.Le.refl h).new x k hx).m _ _ h1
  · exact ((PH.Le.refl h).new x k hx).m _ _ h3
  · obtain ⟨j, hj⟩ := h2.known q; rw [hj]; simp
  · obtain ⟨j, hj⟩ := h4.known q; rw [hj]; simp
end
theorem D2.setIn {h0 h : PH} {a b x : Nat} {da db : Dk} {k : Bk} (hd : D2 h0 h a da b db) (hx : h0.m x = some k) (k' : Bk) : D2 (h0.new x k') (h.new x k') a da b db := by
  obtain ⟨A, c, B, e, h1, h2, h3, h4, h5, h6, h7⟩ := hd.cells
  have hn : ∀ y, h0.m y = none → ¬ y = x ∧ (h0.new x k').m y = none := fun y q => by
    have r : ¬ y = x := fun r => by rw [r, hx] at q; cases q
    exact ⟨r, by rw [PH.new_m, if_neg r]; exact q⟩
  have hs : ∀ y, ¬ y = x → (h.new x k').m y = h.m y := fun y r => by rw [PH.new_m, if_neg r]
  refine ⟨by simp only [PH.new_top]; have := hd.top; omega, fun y j q => ?_, hd.ne, (hn _ hd.lowa).2, (hn _ hd.lowb).2, A, c, B, e, by rw [hs _ (hn _ hd.lowa).1]; exact h1, h2.same fun y q => hs _ (hn _ (h5 y q).1).1, by rw [hs _ (hn _ hd.lowb).1]; exact h3, h4.same fun y q => hs _ (hn _ (h6 y q).1).1, fun y q => ⟨(hn _ (h5 y q).1).2, (h5 y q).2⟩, fun y q => ⟨(hn _ (h6 y q).1).2, (h6 y q).2⟩, h7⟩
  rw [PH.new_m] at q ⊢
  by_cases r : y = x
  · rw [if_pos r] at q ⊢; exact q
  · rw [if_neg r] at q ⊢; exact hd.same y j q
def jL (a b : Nat) (g : Nat) (o : Bool) : List Value := [.pointer (some ⟨a, 0, none⟩), .pointer (some ⟨b, 0, none⟩), .int .i64 g, .bool o]
structure JS (h0 h : PH) (j a b : Nat) (da db : Dk) (g : Nat) (o : Bool) : Prop where
  low : h0.m j = none
  d2 : D2 (h0.new j ⟨jL a b g o, 4⟩) h a da b db
section
variable {h0 h h' : PH} {j a b : Nat} {da db : Dk} {g : Nat} {o : Bool}
theorem JS.mono (hd : JS h0 h j a b da db g o) (hl : PH.Le h h') : JS h0 h' j a b da db g o := ⟨hd.low, hd.d2.mono hl⟩
theorem JS.cell (hd : JS h0 h j a b da db g o) : h.m j = some ⟨jL a b g o, 4⟩ := hd.d2.same _ _ (by rw [PH.new_m, if_pos rfl])
theorem JS.low_le (h0 : PH) (hl : h0.m j = none) (k : Bk) : PH.Le h0 (h0.new j k) := ⟨by simp only [PH.new_top]; omega, fun x q e => by rw [PH.new_m, if_neg (fun r => by subst r; rw [hl] at e; cases e)]; exact e⟩
theorem JS.le (hd : JS h0 h j a b da db g o) : PH.Le h0 h := (JS.low_le h0 hd.low _).trans hd.d2.le
theorem D2.setJ {k : Bk} (hlow : h0.m j = none) (hd : D2 (h0.new j k) h a da b db) (k' : Bk) : D2 (h0.new j k') (h.new j k') a da b db := by
  obtain ⟨A, c, B, e, h1, h2, h3, h4, h5, h6, h7⟩ := hd.cells
  have hn : ∀ y, (h0.new j k).m y = none → y ≠ j ∧ h0.m y = none := fun y q => by
    rw [PH.new_m] at q
    by_cases r : y = j
    · rw [if_pos r] at q; cases q
    · rw [if_neg r] at q; exact ⟨r, q⟩
  have hs : ∀ y, y ≠ j → (h.new j k').m y = h.m y := fun y r => by rw [PH.new_m, if_neg r]
  have hs0 : ∀ y, (h0.new j k).m y = none → (h0.new j k').m y = none := fun y q => by rw [PH.new_m, if_neg (hn y q).1]; exact (hn y q).2
  refine ⟨?_, fun x q e => ?_, hd.ne, hs0 _ hd.lowa, hs0 _ hd.lowb, A, c, B, e, ?_, h2.same fun y hy => hs _ (hn _ (h5 y hy).1).1, ?_, h4.same fun y hy => hs _ (hn _ (h6 y hy).1).1, fun y q => ⟨hs0 _ (h5 y q).1, (h5 y q).2⟩, fun y q => ⟨hs0 _ (h6 y q).1, (h6 y q).2⟩, h7⟩
  · have := hd.top; simp only [PH.new_top] at *; omega
  · rw [PH.new_m] at e ⊢
    by_cases r : x = j
    · rw [if_pos r] at e ⊢; exact e
    · rw [if_neg r] at e ⊢
      exact hd.same x q (by rw [PH.new_m, if_neg r]; exact e)
  · rw [hs _ (hn _ hd.lowa).1]; exact h1
  · rw [hs _ (hn _ hd.lowb).1]; exact h3
theorem JS.set (hd : JS h0 h j a b da db g o) (g' : Nat) (o' : Bool) : JS h0 (h.new j ⟨jL a b g' o', 4⟩) j a b da db g' o' := ⟨hd.low, hd.d2.setJ hd.low _⟩
theorem JS.swap (hd : JS h0 h j a b da db g o) (g' : Nat) (o' : Bool) : JS h0 (h.new j ⟨jL b a g' o', 4⟩) j b a db da g' o' := ⟨hd.low, (hd.d2.setJ hd.low _).symm⟩
theorem JS.useA (hd : JS h0 h j a b da db g o) : ∃ h1, DS h1 h a da ∧ PH.Le h1 h ∧ ∀ h' da', DS h1 h' a da' → JS h0 h' j a b da' db g o := by
  obtain ⟨h1, q1, q2, q3⟩ := hd.d2.use
  exact ⟨h1, q1, q2, fun h' da' e => ⟨hd.low, q3 h' da' e⟩⟩
theorem JS.useB (hd : JS h0 h j a b da db g o) : ∃ h1, DS h1 h b db ∧ PH.Le h1 h ∧ ∀ h' db', DS h1 h' b db' → JS h0 h' j a b da db' g o := by
  obtain ⟨h1, q1, q2, q3⟩ := hd.d2.symm.use
  exact ⟨h1, q1, q2, fun h' db' e => ⟨hd.low, (q3 h' db' e).symm⟩⟩
end
def EC (h : PH) (v : Value) : Option Int → Prop
  | none => v = .nilIface
  | some k => ∃ e, EV h e v ∧ e.num = k
theorem EC.more {h h' : PH} {v : Value} {o : Option Int} (e : EC h v o) (l : PH.Le h h') : EC h' v o := by
  cases o with
  | none => exact e
  | some k => obtain ⟨e, h1, h2⟩ := e; exact ⟨e, h1.more l, h2⟩
theorem ER.ec {h : PH} {v : Value} {o : Option (Int × Int)} (e : ER h v o) : EC h v (o.map (·.1)) := by
  cases o with
  | none => exact e
  | some p => exact ⟨_, e, rfl⟩
end Go.Proofs.Ytblikpbaeippaaa


namespace Go.Proofs.Ytblikpbaeippaaa
set_option linter.unusedVariables false
set_option linter.unusedSimpArgs false
open Go.RowKit Px Wr
def journalT : List UInt8 := [106, 111, 117, 114, 110, 97, 108]
set_option maxRecDepth 20000 in
theorem fat_nil (s : List UInt8) (a : Int) (w0 : World) (h : PH) : PCalls Try.prog w0 25 [str s, .int .i64 a, .nilIface] h fun r h' => r = .nilIface ∧ h' = h := by
  refine zAp Try.func25 (by kernel_rfl) rfl _ Try.ntmps25 (by kernel_rfl) (by kernel_rfl) _ Try.results25 ?_
  simp -dsimp -implicitDefEqProofs (disch := first | omega | assumption | (simp only [Option.isSome_some,Qt0]; done) | (simp only [List.length_cons,List.length_nil,List.length_append,Int.toNat_natCast] <;> omega) | fail) only [Nat.reduceLT,Nat.reduceLeDiff,Nat.reduceEqDiff,↓reduceIte,Int.reduceLT,Int.reduceLE,Int.reduceToNat,Int.reduceEq,Int.reduceNe,Nat.reduceAdd,Int.reduceAdd,Int.reduceSub,Int.reduceMul,Nat.reduceMul,Qp0,Qp1,Ql0,Qe0]
  exact ⟨_, PH.Le.refl _, by first | trivial | rfl, rfl⟩
theorem fat_ec (s : List UInt8) (a : Int) (o : Option Int) (v : Value) (w0 : World) (h : PH) (hv : EC h v o) : PCalls Try.prog w0 25 [str s, .int .i64 a, v] h fun r h' => EC h' r o ∧ PH.Le h h' := by
  cases o with
  | none =>
    obtain rfl : v = .nilIface := hv
    refine (fat_nil s a w0 h).mono ?_
    rintro r h' ⟨rfl, rfl⟩
    exact ⟨rfl, PH.Le.refl _⟩
  | some k =>
    obtain ⟨e, h1, h2⟩ := hv
    refine (at_ev s a e v w0 h h1).mono ?_
    rintro r h' ⟨be, rfl, hbe, rfl⟩
    exact ⟨⟨_, h1.at hbe, h2⟩, (PH.Le.refl h).new _ _ hbe⟩
theorem EC.val {h : PH} {v : Value} {o : Option Int} (e : EC h v o) : v = .nilIface ∨ ∃ t x, v = .iface t x := by
  cases o with
  | none => exact .inl e
  | some k => obtain ⟨e, h1, h2⟩ := e; exact .inr h1.held
set_option maxRecDepth 20000 in
theorem zB4 (j a b : Nat) (g : Nat) (o : Bool) (k : Option Int) (v : Value) (w0 : World) (h : PH) (hj : h.m j = some ⟨jL a b g o, 4⟩) (hv : EC h v k) : PCalls Try.prog w0 35 [.pointer (some ⟨j, 0, none⟩), v] h fun r h' => EC h' r k ∧ PH.Le h h' := by
  refine zAp Try.func35 (by kernel_rfl) rfl _ Try.ntmps35 (by kernel_rfl) (by kernel_rfl) _ Try.results35 ?_
  unfold jL at hj
  simp -dsimp -implicitDefEqProofs (disch := first | omega | assumption | (simp only [Option.isSome_some,Qt0]; done) | (simp only [List.length_cons,List.length_nil,List.length_append,Int.toNat_natCast] <;> omega) | fail) only [Nat.reduceLT,Nat.reduceLeDiff,Nat.reduceEqDiff,↓reduceIte,Int.reduceLT,Int.reduceLE,Int.reduceToNat,Int.reduceEq,Int.reduceNe,Nat.reduceAdd,Int.reduceAdd,Int.reduceSub,Int.reduceMul,Nat.reduceMul,Qp0,Qp1,Ql0,Qe0,zAa,zAb,hj]
  refine (fat_ec journalT g k v w0 h hv).mono ?_
  rintro r h' ⟨h1, h2⟩
  simp -dsimp -implicitDefEqProofs (disch := first | omega | assumption | (simp only [Option.isSome_some,Qt0]; done) | (simp only [List.length_cons,List.length_nil,List.length_append,Int.toNat_natCast] <;> omega) | fail) only [Nat.reduceLT,Nat.reduceLeDiff,Nat.reduceEqDiff,↓reduceIte,Int.reduceLT,Int.reduceLE,Int.reduceToNat,Int.reduceEq,Int.reduceNe,Nat.reduceAdd,Int.reduceAdd,Int.reduceSub,Int.reduceMul,Nat.reduceMul,Qp0,Qp1,Ql0,Qe0]
  exact ⟨_, PH.Le.refl _, h1, h2⟩
def overK (o : Bool) (k : Option Int) : Bool := match k with
  | none => o
  | some n => if n = 4 then o else true
theorem zBa {h : PH} {v : Value} {k : Int} (c : Int) (hv : EC h v (some k)) (w0 : World) : PCalls Try.prog w0 14 [v, codeV c] h fun r h' => r = .bool (decide (k = c)) ∧ h' = h := by
  obtain ⟨e, h1, h2⟩ := hv
  refine (is_any c w0 h e v h1).mono ?_
  rintro r h' ⟨rfl, rfl⟩
  refine ⟨?_, rfl⟩
  rw [h2]
  congr 1
set_option maxRecDepth 20000 in
set_option maxHeartbeats 1000000 in
theorem zFb {h0 : PH} {j a b : Nat} {da db : Dk} {g : Nat} {o : Bool} (k : Option Int) (v : Value) (w0 : World) (h : PH) (hj : JS h0 h j a b da db g o) (hv : EC h v k) : PCalls Try.prog w0 37 [.pointer (some ⟨j, 0, none⟩), v] h fun r h' => EC h' r k ∧ JS h0 h' j a b da db g (overK o k) := by
  refine zAp Try.func37 (by kernel_rfl) rfl _ Try.ntmps37 (by kernel_rfl) (by kernel_rfl) _ Try.results37 ?_
  have hm := hj.cell
  cases k with
  | none =>
    obtain rfl : v = .nilIface := hv
    have hA := Lib.hid (zB4 j a b g o none .nilIface w0 h hm rfl)
    simp -dsimp -implicitDefEqProofs (disch := first | omega | assumption | (simp only [Option.isSome_some,Qt0]; done) | (simp only [List.length_cons,List.length_nil,List.length_append,Int.toNat_natCast] <;> omega) | fail) only [Nat.reduceLT,Nat.reduceLeDiff,Nat.reduceEqDiff,↓reduceIte,Int.reduceLT,Int.reduceLE,Int.reduceToNat,Int.reduceEq,Int.reduceNe,Nat.reduceAdd,Int.reduceAdd,Int.reduceSub,Int.reduceMul,Nat.reduceMul,Qp0,Qp1,Ql0,Qe0]
    refine hA.out.mono ?_
    rintro r h' ⟨h1, h2⟩
    simp -dsimp -implicitDefEqProofs (disch := first | omega | assumption | (simp only [Option.isSome_some,Qt0]; done) | (simp only [List.length_cons,List.length_nil,List.length_append,Int.toNat_natCast] <;> omega) | fail) only [Nat.reduceLT,Nat.reduceLeDiff,Nat.reduceEqDiff,↓reduceIte,Int.reduceLT,Int.reduceLE,Int.reduceToNat,Int.reduceEq,Int.reduceNe,Nat.reduceAdd,Int.reduceAdd,Int.reduceSub,Int.reduceMul,Nat.reduceMul,Qp0,Qp1,Ql0,Qe0]
    exact ⟨_, PH.Le.refl _, h1, hj.mono h2⟩
  | some k =>
    have hI := zBa 4 hv w0
    unfold codeV at hI
    obtain ⟨t, x, rfl⟩ : ∃ t x, v = .iface t x := by obtain ⟨e, h1, _⟩ := hv; exact h1.held
    simp -dsimp -implicitDefEqProofs (disch := first | omega | assumption | (simp only [Option.isSome_some,Qt0]; done) | (simp only [List.length_cons,List.length_nil,List.length_append,Int.toNat_natCast] <;> omega) | fail) only [Nat.reduceLT,Nat.reduceLeDiff,Nat.reduceEqDiff,↓reduceIte,Int.reduceLT,Int.reduceLE,Int.reduceToNat,Int.reduceEq,Int.reduceNe,Nat.reduceAdd,Int.reduceAdd,Int.reduceSub,Int.reduceMul,Nat.reduceMul,Qp0,Qp1,Ql0,Qe0]
    refine hI.mono ?_
    rintro r h' ⟨rfl, hz⟩
    obtain rfl := hz.symm
    by_cases hk : k = 4
    · have d1 : decide (k = 4) = true := decide_eq_true hk
      have hA := Lib.hid (zB4 j a b g o (some k) _ w0 h hm hv)
      simp -dsimp -implicitDefEqProofs (disch := first | omega | assumption | (simp only [Option.isSome_some,Qt0]; done) | (simp only [List.length_cons,List.length_nil,List.length_append,Int.toNat_natCast] <;> omega) | fail) only [Nat.reduceLT,Nat.reduceLeDiff,Nat.reduceEqDiff,↓reduceIte,Int.reduceLT,Int.reduceLE,Int.reduceToNat,Int.reduceEq,Int.reduceNe,Nat.reduceAdd,Int.reduceAdd,Int.reduceSub,Int.reduceMul,Nat.reduceMul,Qp0,Qp1,Ql0,Qe0,d1]
      refine hA.out.mono ?_
      rintro r h' ⟨h1, h2⟩
      simp -dsimp -implicitDefEqProofs (disch := first | omega | assumption | (simp only [Option.isSome_some,Qt0]; done) | (simp only [List.length_cons,List.length_nil,List.length_append,Int.toNat_natCast] <;> omega) | fail) only [Nat.reduceLT,Nat.reduceLeDiff,Nat.reduceEqDiff,↓reduceIte,Int.reduceLT,Int.reduceLE,Int.reduceToNat,Int.reduceEq,Int.reduceNe,Nat.reduceAdd,Int.reduceAdd,Int.reduceSub,Int.reduceMul,Nat.reduceMul,Qp0,Qp1,Ql0,Qe0]
      refine ⟨_, PH.Le.refl _, h1, ?_⟩
      have : overK o (some k) = o := by unfold overK; simp [hk]
      rw [this]
      exact hj.mono h2
    · have d1 : decide (k = 4) = false := decide_eq_false hk
      have hset := hj.set g true
      have hs : PH.Le h (h.new j ⟨jL a b g true, 4⟩) ∨ True := .inr trivial
      have hv' : EC (h.new j ⟨jL a b g true, 4⟩) (.iface t x) (some k) := by
        obtain ⟨e, h1, h2⟩ := hv
        refine ⟨e, ?_, h2⟩
        have key : ∀ {e : Er} {v : Value}, EV h e v → EV (h.new j ⟨jL a b g true, 4⟩) e v := by
          intro e
          induction e with
          | code k => exact fun hv => hv
          | wrap s a' e ih =>
            rintro v ⟨b', u, h1, h2, h3⟩
            refine ⟨b', u, h1, ?_, ih h3⟩
            rw [PH.new_m, if_neg (fun q => by subst q; rw [hm] at h2; injection h2 with h2; injection h2 with h2; simp [jL] at h2)]
            exact h2
        exact key h1
      have hA := Lib.hid (zB4 j a b g true (some k) _ w0 _ hset.cell hv')
      unfold jL at hm
      simp -dsimp -implicitDefEqProofs (disch := first | omega | assumption | (simp only [Option.isSome_some,Qt0]; done) | (simp only [List.length_cons,List.length_nil,List.length_append,Int.toNat_natCast] <;> omega) | fail) only [Nat.reduceLT,Nat.reduceLeDiff,Nat.reduceEqDiff,↓reduceIte,Int.reduceLT,Int.reduceLE,Int.reduceToNat,Int.reduceEq,Int.reduceNe,Nat.reduceAdd,Int.reduceAdd,Int.reduceSub,Int.reduceMul,Nat.reduceMul,Qp0,Qp1,Ql0,Qe0,d1,hm,List.set_cons_zero,List.set_cons_succ,List.take_zero,List.drop_succ_cons,List.drop_zero,List.drop_nil,List.nil_append,List.append_nil,List.take_succ_cons,ite_true,PH.new_new]
      unfold jL at hA
      refine hA.out.mono ?_
      rintro r h' ⟨h1, h2⟩
      simp -dsimp -implicitDefEqProofs (disch := first | omega | assumption | (simp only [Option.isSome_some,Qt0]; done) | (simp only [List.length_cons,List.length_nil,List.length_append,Int.toNat_natCast] <;> omega) | fail) only [Nat.reduceLT,Nat.reduceLeDiff,Nat.reduceEqDiff,↓reduceIte,Int.reduceLT,Int.reduceLE,Int.reduceToNat,Int.reduceEq,Int.reduceNe,Nat.reduceAdd,Int.reduceAdd,Int.reduceSub,Int.reduceMul,Nat.reduceMul,Qp0,Qp1,Ql0,Qe0]
      refine ⟨_, PH.Le.refl _, h1, ?_⟩
      have : overK o (some k) = true := by unfold overK; simp [hk]
      rw [this]
      exact hset.mono h2
set_option maxRecDepth 20000 in
set_option maxHeartbeats 1000000 in
theorem jlong_any (A : Option Addr) (c : Nat) (l : List (List UInt8)) (w0 : World) (h : PH) (hr : Rv w0 h A (l.map str)) (hN : l.length ≤ 1000000000) : PCalls Try.prog w0 36 [.slice A l.length c] h fun v h' => v = .bool (l.any fun s => decide (4096 < s.length)) ∧ PH.Le h h' := by
  refine zCb fun q hlq hlow hut => ?_
  refine zAp Try.func36 (by kernel_rfl) rfl _ Try.ntmps36 (by kernel_rfl) (by kernel_rfl) _ Try.results36 ?_
  have hrq := hr.more hlq
  obtain ⟨n, hn⟩ : ∃ n, n = l.length := ⟨_, rfl⟩
  rw [← hn]
  simp -dsimp -implicitDefEqProofs (disch := first | omega | assumption | (simp only [Option.isSome_some,Qt0]; done) | (simp only [List.length_cons,List.length_nil,List.length_append,Int.toNat_natCast] <;> omega) | fail) only [Nat.reduceLT,Nat.reduceLeDiff,Nat.reduceEqDiff,↓reduceIte,Int.reduceLT,Int.reduceLE,Int.reduceToNat,Int.reduceEq,Int.reduceNe,Nat.reduceAdd,Int.reduceAdd,Int.reduceSub,Int.reduceMul,Nat.reduceMul,Qp0,Qp1,Ql0,Qe0]
  refine zB3 (fun m f h' => ∃ i : Nat, m + i = n ∧ f 5 = some (.slice A n c) ∧ f 6 = some (.int .i64 n) ∧ f 7 = some (.int .i64 i) ∧ PH.Le q h' ∧ (l.take i).any (fun s => decide (4096 < s.length)) = false) (by kernel_rfl) n ⟨0, by omega, ?_, ?_, ?_, PH.Le.refl _, rfl⟩ ?_
  · simp -dsimp -implicitDefEqProofs (disch := first | omega | assumption | (simp only [Option.isSome_some,Qt0]; done) | (simp only [List.length_cons,List.length_nil,List.length_append,Int.toNat_natCast] <;> omega) | fail) only [Nat.reduceLT,Nat.reduceLeDiff,Nat.reduceEqDiff,↓reduceIte,Int.reduceLT,Int.reduceLE,Int.reduceToNat,Int.reduceEq,Int.reduceNe,Nat.reduceAdd,Int.reduceAdd,Int.reduceSub,Int.reduceMul,Nat.reduceMul,Qp0,Qp1,Ql0,Qe0]
  · simp -dsimp -implicitDefEqProofs (disch := first | omega | assumption | (simp only [Option.isSome_some,Qt0]; done) | (simp only [List.length_cons,List.length_nil,List.length_append,Int.toNat_natCast] <;> omega) | fail) only [Nat.reduceLT,Nat.reduceLeDiff,Nat.reduceEqDiff,↓reduceIte,Int.reduceLT,Int.reduceLE,Int.reduceToNat,Int.reduceEq,Int.reduceNe,Nat.reduceAdd,Int.reduceAdd,Int.reduceSub,Int.reduceMul,Nat.reduceMul,Qp0,Qp1,Ql0,Qe0]
  · simp -dsimp -implicitDefEqProofs (disch := first | omega | assumption | (simp only [Option.isSome_some,Qt0]; done) | (simp only [List.length_cons,List.length_nil,List.length_append,Int.toNat_natCast] <;> omega) | fail) only [Nat.reduceLT,Nat.reduceLeDiff,Nat.reduceEqDiff,↓reduceIte,Int.reduceLT,Int.reduceLE,Int.reduceToNat,Int.reduceEq,Int.reduceNe,Nat.reduceAdd,Int.reduceAdd,Int.reduceSub,Int.reduceMul,Nat.reduceMul,Qp0,Qp1,Ql0,Qe0]
    try rfl
  rintro m f h' ⟨i, hmi, f5, f6, f7, hl', hL⟩ hlow'
  by_cases hi : i < n
  rotate_left
  · have e2 : decide ((i : Int) < (n : Int)) = false := decide_eq_false (by omega)
    rw [List.take_of_length_le (by omega)] at hL
    rw [hL]
    simp -dsimp -implicitDefEqProofs (disch := first | omega | assumption | (simp only [Option.isSome_some,Qt0]; done) | (simp only [List.length_cons,List.length_nil,List.length_append,Int.toNat_natCast] <;> omega) | fail) only [Nat.reduceLT,Nat.reduceLeDiff,Nat.reduceEqDiff,↓reduceIte,Int.reduceLT,Int.reduceLE,Int.reduceToNat,Int.reduceEq,Int.reduceNe,Nat.reduceAdd,Int.reduceAdd,Int.reduceSub,Int.reduceMul,Nat.reduceMul,Qp0,Qp1,Ql0,Qe0,f5,f6,f7,e2]
    exact ⟨_, PH.Le.refl _, by first | trivial | rfl, hlq.trans hl'⟩
  have e2 : decide ((i : Int) < (n : Int)) = true := decide_eq_true (by omega)
  obtain ⟨x, hx⟩ : ∃ x, l[i]? = some x := ⟨_, List.getElem?_eq_getElem (by omega)⟩
  have hr' := hrq.more hl'
  obtain ⟨pb, po, rfl⟩ := hr'.addr (by rw [List.length_map]; omega)
  have hrd := hr'.get hlow' (j := i) (u := str x) (by rw [List.getElem?_map, hx]; rfl)
  have hsplit : l = l.take i ++ x :: l.drop (i + 1) := by
    have := List.take_append_drop i l
    rw [List.drop_eq_getElem_cons (by omega)] at this
    rw [List.getElem?_eq_getElem (by omega)] at hx
    rw [Option.some.inj hx] at this
    exact this.symm
  by_cases hb : 4096 < x.length
  · have d1 : decide (4096 < (x.length : Int)) = true := decide_eq_true (by omega)
    have hany : (l.any fun s => decide (4096 < s.length)) = true := by rw [hsplit]; simp [hb]
    rw [hany]
    simp -dsimp -implicitDefEqProofs (disch := first | omega | assumption | (simp only [Option.isSome_some,Qt0]; done) | (simp only [List.length_cons,List.length_nil,List.length_append,Int.toNat_natCast] <;> omega) | fail) only [Nat.reduceLT,Nat.reduceLeDiff,Nat.reduceEqDiff,↓reduceIte,Int.reduceLT,Int.reduceLE,Int.reduceToNat,Int.reduceEq,Int.reduceNe,Nat.reduceAdd,Int.reduceAdd,Int.reduceSub,Int.reduceMul,Nat.reduceMul,Qp0,Qp1,Ql0,Qe0,f5,f6,f7,e2,zAa,hrd,gt_iff_lt,d1]
    exact ⟨_, PH.Le.refl _, by first | trivial | rfl, hlq.trans hl'⟩
  · have d1 : decide (4096 < (x.length : Int)) = false := decide_eq_false (by omega)
    simp -dsimp -implicitDefEqProofs (disch := first | omega | assumption | (simp only [Option.isSome_some,Qt0]; done) | (simp only [List.length_cons,List.length_nil,List.length_append,Int.toNat_natCast] <;> omega) | fail) only [Nat.reduceLT,Nat.reduceLeDiff,Nat.reduceEqDiff,↓reduceIte,Int.reduceLT,Int.reduceLE,Int.reduceToNat,Int.reduceEq,Int.reduceNe,Nat.reduceAdd,Int.reduceAdd,Int.reduceSub,Int.reduceMul,Nat.reduceMul,Qp0,Qp1,Ql0,Qe0,f5,f6,f7,e2,zAa,hrd,gt_iff_lt,d1]
    refine ⟨m - 1, _, by omega, PH.Le.refl _, i + 1, by omega, by trivial, by trivial, by simp, hl', ?_⟩
    rw [List.take_add_one, hx, List.any_append, hL]
    simp [hb]
end Go.Proofs.Ytblikpbaeippaaa


namespace Go.Proofs.Ytblikpbaeippaaa
set_option linter.unusedVariables false
set_option linter.unusedSimpArgs false
open Go.RowKit Px Wr
theorem zEi : ∀ {ps : List Pt}, AllOk ps → (flatP ps).length ≤ ps.length * 8301
  | [], _ => by simp [flatP]
  | x :: ps, h => by
    have h1 := zEi h.cons.2
    have h2 := zDo h.cons.1
    rw [zBo, List.length_append, List.length_cons, Nat.add_mul, Nat.one_mul]
    omega
theorem zD4 {d : Dk} (g : Good d) : ∃ p : Nat, d.safeV.toNat = p ∧ (if d.down = true then (0 : Int) else d.safe) = (p : Int) ∧ p ≤ 1048576 := by
  have h1 := g.safe0; have h2 := g.safe1; have h3 := g.len
  refine ⟨_, rfl, ?_, ?_⟩
  · show d.safeV = _
    unfold Dk.safeV
    split <;> omega
  · unfold Dk.safeV
    split <;> omega
set_option maxRecDepth 20000 in
set_option maxHeartbeats 1000000 in
theorem zHd {h0 : PH} {b : Nat} {d : Dk} (jv : Value) (gen : Nat) (hg : 1 ≤ gen ∧ gen ≤ 1099511627776) (A : Option Addr) (c : Nat) (l : List (List UInt8)) (w0 : World) (h : PH) (hd : DS h0 h b d) (g : Good d) (hr : Rv w0 h A (l.map str)) (hl : ∀ t ∈ l, t.length ≤ 4096) (hN : l.length ≤ 100000) : PCalls Try.prog w0 39 [jv, .pointer (some ⟨b, 0, none⟩), .int .i64 gen, .slice A l.length c] h fun v h' => v = str (flatP (recP gen d.safeV.toNat l)) ∧ PH.Le h h' := by
  refine zCb fun q hlq hlow hut => ?_
  refine zAp Try.func39 (by kernel_rfl) rfl _ Try.ntmps39 (by kernel_rfl) (by kernel_rfl) _ Try.results39 ?_
  have hrq := hr.more hlq
  have hdq := hd.mono hlq
  obtain ⟨n, hn⟩ : ∃ n, n = l.length := ⟨_, rfl⟩
  obtain ⟨p, hp, hp', hpb⟩ := zD4 g
  rw [hp]
  rw [← hn]
  simp -dsimp -implicitDefEqProofs (disch := first | omega | assumption | (simp only [Option.isSome_some,Qt0]; done) | (simp only [List.length_cons,List.length_nil,List.length_append,Int.toNat_natCast] <;> omega) | fail) only [Nat.reduceLT,Nat.reduceLeDiff,Nat.reduceEqDiff,↓reduceIte,Int.reduceLT,Int.reduceLE,Int.reduceToNat,Int.reduceEq,Int.reduceNe,Nat.reduceAdd,Int.reduceAdd,Int.reduceSub,Int.reduceMul,Nat.reduceMul,Qp0,Qp1,Ql0,Qe0]
  refine zB3 (fun m f h' => ∃ (i : Nat) (v : Value), m + i = n ∧ f 1 = some (.pointer (some ⟨b, 0, none⟩)) ∧ f 2 = some (.int .i64 gen) ∧ f 9 = some v ∧ f 12 = some (.slice A n c) ∧ f 13 = some (.int .i64 n) ∧ f 14 = some (.int .i64 i) ∧ OwnS q h' 1 v (flatP (recP gen p (l.take i))).length (bs (flatP (recP gen p (l.take i))))) (by kernel_rfl) n ⟨0, .slice none 0 0, by omega, ?_, ?_, ?_, ?_, ?_, ?_, OwnS.nil q 1⟩ ?_
  · simp -dsimp -implicitDefEqProofs (disch := first | omega | assumption | (simp only [Option.isSome_some,Qt0]; done) | (simp only [List.length_cons,List.length_nil,List.length_append,Int.toNat_natCast] <;> omega) | fail) only [Nat.reduceLT,Nat.reduceLeDiff,Nat.reduceEqDiff,↓reduceIte,Int.reduceLT,Int.reduceLE,Int.reduceToNat,Int.reduceEq,Int.reduceNe,Nat.reduceAdd,Int.reduceAdd,Int.reduceSub,Int.reduceMul,Nat.reduceMul,Qp0,Qp1,Ql0,Qe0]
  · simp -dsimp -implicitDefEqProofs (disch := first | omega | assumption | (simp only [Option.isSome_some,Qt0]; done) | (simp only [List.length_cons,List.length_nil,List.length_append,Int.toNat_natCast] <;> omega) | fail) only [Nat.reduceLT,Nat.reduceLeDiff,Nat.reduceEqDiff,↓reduceIte,Int.reduceLT,Int.reduceLE,Int.reduceToNat,Int.reduceEq,Int.reduceNe,Nat.reduceAdd,Int.reduceAdd,Int.reduceSub,Int.reduceMul,Nat.reduceMul,Qp0,Qp1,Ql0,Qe0]
  · simp -dsimp -implicitDefEqProofs (disch := first | omega | assumption | (simp only [Option.isSome_some,Qt0]; done) | (simp only [List.length_cons,List.length_nil,List.length_append,Int.toNat_natCast] <;> omega) | fail) only [Nat.reduceLT,Nat.reduceLeDiff,Nat.reduceEqDiff,↓reduceIte,Int.reduceLT,Int.reduceLE,Int.reduceToNat,Int.reduceEq,Int.reduceNe,Nat.reduceAdd,Int.reduceAdd,Int.reduceSub,Int.reduceMul,Nat.reduceMul,Qp0,Qp1,Ql0,Qe0]
  · simp -dsimp -implicitDefEqProofs (disch := first | omega | assumption | (simp only [Option.isSome_some,Qt0]; done) | (simp only [List.length_cons,List.length_nil,List.length_append,Int.toNat_natCast] <;> omega) | fail) only [Nat.reduceLT,Nat.reduceLeDiff,Nat.reduceEqDiff,↓reduceIte,Int.reduceLT,Int.reduceLE,Int.reduceToNat,Int.reduceEq,Int.reduceNe,Nat.reduceAdd,Int.reduceAdd,Int.reduceSub,Int.reduceMul,Nat.reduceMul,Qp0,Qp1,Ql0,Qe0]
  · simp -dsimp -implicitDefEqProofs (disch := first | omega | assumption | (simp only [Option.isSome_some,Qt0]; done) | (simp only [List.length_cons,List.length_nil,List.length_append,Int.toNat_natCast] <;> omega) | fail) only [Nat.reduceLT,Nat.reduceLeDiff,Nat.reduceEqDiff,↓reduceIte,Int.reduceLT,Int.reduceLE,Int.reduceToNat,Int.reduceEq,Int.reduceNe,Nat.reduceAdd,Int.reduceAdd,Int.reduceSub,Int.reduceMul,Nat.reduceMul,Qp0,Qp1,Ql0,Qe0]
  · simp -dsimp -implicitDefEqProofs (disch := first | omega | assumption | (simp only [Option.isSome_some,Qt0]; done) | (simp only [List.length_cons,List.length_nil,List.length_append,Int.toNat_natCast] <;> omega) | fail) only [Nat.reduceLT,Nat.reduceLeDiff,Nat.reduceEqDiff,↓reduceIte,Int.reduceLT,Int.reduceLE,Int.reduceToNat,Int.reduceEq,Int.reduceNe,Nat.reduceAdd,Int.reduceAdd,Int.reduceSub,Int.reduceMul,Nat.reduceMul,Qp0,Qp1,Ql0,Qe0]
    try rfl
  rintro m f h' ⟨i, v, hmi, f1, f2, f9, f12, f13, f14, how⟩ hlow'
  have hl' := how.le
  by_cases hi : i < n
  rotate_left
  · have e2 : decide ((i : Int) < (n : Int)) = false := decide_eq_false (by omega)
    rw [List.take_of_length_le (by omega)] at how
    obtain ⟨A', c2, rfl, hc2⟩ := how.own.len
    simp -dsimp -implicitDefEqProofs (disch := first | omega | assumption | (simp only [Option.isSome_some,Qt0]; done) | (simp only [List.length_cons,List.length_nil,List.length_append,Int.toNat_natCast] <;> omega) | fail) only [Nat.reduceLT,Nat.reduceLeDiff,Nat.reduceEqDiff,↓reduceIte,Int.reduceLT,Int.reduceLE,Int.reduceToNat,Int.reduceEq,Int.reduceNe,Nat.reduceAdd,Int.reduceAdd,Int.reduceSub,Int.reduceMul,Nat.reduceMul,Qp0,Qp1,Ql0,Qe0,f1,f2,f9,f12,f13,f14,e2]
    refine zBx Try.underlying77 Try.underlying5 Try.underlying9 (Rs.own how.own) how.own.nil_zero ?_
    simp -dsimp -implicitDefEqProofs (disch := first | omega | assumption | (simp only [Option.isSome_some,Qt0]; done) | (simp only [List.length_cons,List.length_nil,List.length_append,Int.toNat_natCast] <;> omega) | fail) only [Nat.reduceLT,Nat.reduceLeDiff,Nat.reduceEqDiff,↓reduceIte,Int.reduceLT,Int.reduceLE,Int.reduceToNat,Int.reduceEq,Int.reduceNe,Nat.reduceAdd,Int.reduceAdd,Int.reduceSub,Int.reduceMul,Nat.reduceMul,Qp0,Qp1,Ql0,Qe0]
    exact ⟨_, PH.Le.refl _, by trivial, hlq.trans hl'⟩
  have e2 : decide ((i : Int) < (n : Int)) = true := decide_eq_true (by omega)
  obtain ⟨x, hx⟩ : ∃ x, l[i]? = some x := ⟨_, List.getElem?_eq_getElem (by omega)⟩
  have hr' := hrq.more hl'
  obtain ⟨pb, po, rfl⟩ := hr'.addr (by rw [List.length_map]; omega)
  have hrd := hr'.get hlow' (j := i) (u := str x) (by rw [List.getElem?_map, hx]; rfl)
  have hS := safe_any h0 b d w0 h' (hdq.mono hl')
  rw [hp'] at hS
  have hx4 := hl x (List.mem_of_getElem? hx)
  have hok : Pt.Ok ⟨2, gen, p, x⟩ := zCc (g := gen) (p := p) (l := [x]) hg.1 hg.2 (by omega) (fun t ht => by rw [List.mem_singleton] at ht; subst ht; exact hx4) _ (by simp [recP])
  have hE := zD0 ⟨2, gen, p, x⟩ hok w0 h'
  unfold ptL at hE
  simp -dsimp -implicitDefEqProofs (disch := first | omega | assumption | (simp only [Option.isSome_some,Qt0]; done) | (simp only [List.length_cons,List.length_nil,List.length_append,Int.toNat_natCast] <;> omega) | fail) only [Nat.reduceLT,Nat.reduceLeDiff,Nat.reduceEqDiff,↓reduceIte,Int.reduceLT,Int.reduceLE,Int.reduceToNat,Int.reduceEq,Int.reduceNe,Nat.reduceAdd,Int.reduceAdd,Int.reduceSub,Int.reduceMul,Nat.reduceMul,Qp0,Qp1,Ql0,Qe0,f1,f2,f9,f12,f13,f14,e2,zAa,hrd]
  refine hS.mono ?_
  rintro r hz ⟨rfl, hz'⟩
  obtain rfl := hz'.symm
  simp -dsimp -implicitDefEqProofs (disch := first | omega | assumption | (simp only [Option.isSome_some,Qt0]; done) | (simp only [List.length_cons,List.length_nil,List.length_append,Int.toNat_natCast] <;> omega) | fail) only [Nat.reduceLT,Nat.reduceLeDiff,Nat.reduceEqDiff,↓reduceIte,Int.reduceLT,Int.reduceLE,Int.reduceToNat,Int.reduceEq,Int.reduceNe,Nat.reduceAdd,Int.reduceAdd,Int.reduceSub,Int.reduceMul,Nat.reduceMul,Qp0,Qp1,Ql0,Qe0,f1,f2,f9,f12,f13,f14]
  refine hE.mono ?_
  rintro r h2 ⟨rfl, hl2⟩
  have hlen : (flatP (recP gen p (l.take i))).length ≤ (l.take i).length * 8301 := by
    have := zEi (ps := recP gen p (l.take i)) (zCc hg.1 hg.2 (by omega) fun t ht => hl t (List.mem_of_mem_take ht))
    rwa [zB7] at this
  have hsl := zDo hok
  have hti : (l.take i).length * 8301 ≤ 100000 * 8301 := Nat.mul_le_mul_right _ (by rw [List.length_take]; omega)
  have how2 := how.more hl2
  simp -dsimp -implicitDefEqProofs (disch := first | omega | assumption | (simp only [Option.isSome_some,Qt0]; done) | (simp only [List.length_cons,List.length_nil,List.length_append,Int.toNat_natCast] <;> omega) | fail) only [Nat.reduceLT,Nat.reduceLeDiff,Nat.reduceEqDiff,↓reduceIte,Int.reduceLT,Int.reduceLE,Int.reduceToNat,Int.reduceEq,Int.reduceNe,Nat.reduceAdd,Int.reduceAdd,Int.reduceSub,Int.reduceMul,Nat.reduceMul,Qp0,Qp1,Ql0,Qe0,f1,f2,f9,f12,f13,f14]
  refine zFp zA8 Try.underlying9 how2.own (by omega) (fun v3 h3 ho hst _ => ?_)
  have how3 := how2.stays hst ho
  have hnext : flatP (recP gen p (l.take (i + 1))) = flatP (recP gen p (l.take i)) ++ sealP ⟨2, gen, p, x⟩ := by
    rw [List.take_add_one, hx]
    simp [recP, flatP]
  rw [← zBi, ← List.length_append, ← hnext] at how3
  simp -dsimp -implicitDefEqProofs (disch := first | omega | assumption | (simp only [Option.isSome_some,Qt0]; done) | (simp only [List.length_cons,List.length_nil,List.length_append,Int.toNat_natCast] <;> omega) | fail) only [Nat.reduceLT,Nat.reduceLeDiff,Nat.reduceEqDiff,↓reduceIte,Int.reduceLT,Int.reduceLE,Int.reduceToNat,Int.reduceEq,Int.reduceNe,Nat.reduceAdd,Int.reduceAdd,Int.reduceSub,Int.reduceMul,Nat.reduceMul,Qp0,Qp1,Ql0,Qe0,f1,f2,f9,f12,f13,f14]
  exact ⟨m - 1, _, by omega, PH.Le.refl _, i + 1, v3, by omega, by trivial, by trivial, by trivial, by trivial, by trivial, by simp, how3⟩
theorem DS.new {h0 h : PH} {b x : Nat} {d : Dk} {k : Bk} (hd : DS h0 h b d) (hx : h.top ≤ x) : DS (h0.new x k) (h.new x k) b d := by
  obtain ⟨A, c, h1, h2, h5⟩ := hd.cells
  have hn : ∀ y, h.m y ≠ none → h0.m y = none → (h0.new x k).m y = none := fun y q1 q2 => by
    rw [PH.new_m, if_neg]
    · exact q2
    · intro q
      subst q
      exact q1 (h.gone hx)
  have hl := (PH.Le.refl h).new x k hx
  refine ⟨?_, hn _ (by rw [h1]; simp) hd.low, fun y j q => ?_, A, c, hl.m _ _ h1, h2.more hl, fun y q => ⟨hn _ ?_ (h5 y q).1, (h5 y q).2⟩⟩
  · simp only [PH.new_top]; have := hd.top; omega
  · rw [PH.new_m] at q ⊢
    split
    · rename_i e; rw [if_pos e] at q; exact q
    · rename_i e; rw [if_neg e] at q; exact hd.same y j q
  · obtain ⟨j, hj⟩ := h2.known q; rw [hj]; simp
theorem DS.base {h00 h0 h : PH} {b : Nat} {d : Dk} (hd : DS h0 h b d) (hl : PH.Le h00 h0) : DS h00 h b d := by
  obtain ⟨A, c, h1, h2, h5⟩ := hd.cells
  have hn : ∀ x, h0.m x = none → h00.m x = none := fun x q => by
    cases hk : h00.m x with
    | none => rfl
    | some k => rw [hl.m _ _ hk] at q; cases q
  exact ⟨Nat.le_trans hl.top hd.top, hn _ hd.low, fun x k e => hd.same x k (hl.m _ _ e), A, c, h1, h2, fun x q => ⟨hn _ (h5 x q).1, (h5 x q).2⟩⟩
theorem DS.le2 {h0 h : PH} {b : Nat} {d : Dk} (hd : DS h0 h b d) : PH.Le h0 h := ⟨hd.top, hd.same⟩
set_option maxRecDepth 20000 in
set_option maxHeartbeats 1000000 in
theorem zI6 (h0 : PH) (b : Nat) (d : Dk) (w0 : World) (h : PH) (hd : DS h0 h b d) (g : Good d) (s : List UInt8) (hs : s.length ≤ 200000) (hno : d.down = false ∧ d.room - d.l.length < s.length) : PCalls Try.prog w0 53 [.pointer (some ⟨b, 0, none⟩), str s] h fun v h' => ∃ be, v = errV be ∧ h.top ≤ be ∧ h' = h.new be ⟨[str blockT, .int .i64 d.l.length, codeV 4], 3⟩ := by
  refine zAp Try.func53 (by kernel_rfl) rfl _ Try.ntmps53 (by kernel_rfl) (by kernel_rfl) _ Try.results53 ?_
  have hD := Lib.hid (zB2 h0 b d w0 h hd)
  obtain ⟨A, c, hb, hr, hA⟩ := hd.cells
  unfold DKc at hb
  have glen := g.len
  have groom := g.room0
  have groom1 := g.room1
  have hB := zCl h0 b d w0 h hd 4
  rw [show d.size = d.l.length by unfold Dk.size; rw [hno.1]; rfl] at hB
  have hB := Lib.hid hB
  rw [hno.1] at hD hb
  have e1 := decide_eq_true hno.2
  simp -dsimp -implicitDefEqProofs (disch := first | omega | assumption | (simp only [Option.isSome_some,Qt0]; done) | (simp only [List.length_cons,List.length_nil,List.length_append,Int.toNat_natCast] <;> omega) | fail) only [Nat.reduceLT,Nat.reduceLeDiff,Nat.reduceEqDiff,↓reduceIte,Int.reduceLT,Int.reduceLE,Int.reduceToNat,Int.reduceEq,Int.reduceNe,Nat.reduceAdd,Int.reduceAdd,Int.reduceSub,Int.reduceMul,Nat.reduceMul,Qp0,Qp1,Ql0,Qe0]
  refine zBt [0, 1, 2, 3, 4, 5, 6, 7, 8, 9, 10, 11, 12, 13, 14, 15, 16, 17] h (by kernel_rfl) (by decide +kernel) (by kernel_rfl) (by kernel_rfl) (by kernel_rfl) (fun c f h hq => by simp only [zAy, zAv, zAw, zAu, zAx] at hq) (PH.Le.refl _).sub ?_
  simp -dsimp -implicitDefEqProofs (disch := first | omega | assumption | (simp only [Option.isSome_some,Qt0]; done) | (simp only [List.length_cons,List.length_nil,List.length_append,Int.toNat_natCast] <;> omega) | fail) only [Nat.reduceLT,Nat.reduceLeDiff,Nat.reduceEqDiff,↓reduceIte,Int.reduceLT,Int.reduceLE,Int.reduceToNat,Int.reduceEq,Int.reduceNe,Nat.reduceAdd,Int.reduceAdd,Int.reduceSub,Int.reduceMul,Nat.reduceMul,Qp0,Qp1,Ql0,Qe0]
  refine hD.out.mono ?_
  rintro v hz ⟨rfl, hz⟩
  rw [hz]
  clear hz
  simp -dsimp -implicitDefEqProofs (disch := first | omega | assumption | (simp only [Option.isSome_some,Qt0]; done) | (simp only [List.length_cons,List.length_nil,List.length_append,Int.toNat_natCast] <;> omega) | fail) only [Nat.reduceLT,Nat.reduceLeDiff,Nat.reduceEqDiff,↓reduceIte,Int.reduceLT,Int.reduceLE,Int.reduceToNat,Int.reduceEq,Int.reduceNe,Nat.reduceAdd,Int.reduceAdd,Int.reduceSub,Int.reduceMul,Nat.reduceMul,Qp0,Qp1,Ql0,Qe0]
  refine ⟨(PH.Le.refl _).sub, ?_⟩
  simp -dsimp -implicitDefEqProofs (disch := first | omega | assumption | (simp only [Option.isSome_some,Qt0]; done) | (simp only [List.length_cons,List.length_nil,List.length_append,Int.toNat_natCast] <;> omega) | fail) only [Nat.reduceLT,Nat.reduceLeDiff,Nat.reduceEqDiff,↓reduceIte,Int.reduceLT,Int.reduceLE,Int.reduceToNat,Int.reduceEq,Int.reduceNe,Nat.reduceAdd,Int.reduceAdd,Int.reduceSub,Int.reduceMul,Nat.reduceMul,Qp0,Qp1,Ql0,Qe0,zAa,zAb,hb,e1]
  refine hB.out.mono ?_
  rintro v hz ⟨be, rfl, hbe, rfl⟩
  unfold errV
  simp -dsimp -implicitDefEqProofs (disch := first | omega | assumption | (simp only [Option.isSome_some,Qt0]; done) | (simp only [List.length_cons,List.length_nil,List.length_append,Int.toNat_natCast] <;> omega) | fail) only [Nat.reduceLT,Nat.reduceLeDiff,Nat.reduceEqDiff,↓reduceIte,Int.reduceLT,Int.reduceLE,Int.reduceToNat,Int.reduceEq,Int.reduceNe,Nat.reduceAdd,Int.reduceAdd,Int.reduceSub,Int.reduceMul,Nat.reduceMul,Qp0,Qp1,Ql0,Qe0]
  exact ⟨_, PH.Le.refl _, be, rfl, hbe, rfl⟩
def DEK (h0 h : PH) (b : Nat) (r : Dk × Option Int) (v : Value) : Prop := (r.2 ≠ some 4 ∧ DS h0 h b r.1 ∧ EC h v r.2) ∨ (r.2 = some 4 ∧ ∃ h1, PH.Le h0 h1 ∧ DS h1 h b r.1 ∧ EC h1 v (some 4))
theorem DEK.both {h0 h : PH} {b : Nat} {r : Dk × Option Int} {v : Value} (e : DEK h0 h b r v) : DS h0 h b r.1 ∧ EC h v r.2 := by
  rcases e with ⟨_, h1, h2⟩ | ⟨h1, q, h2, h3, h4⟩
  · exact ⟨h1, h2⟩
  · exact ⟨h3.base h2, by rw [h1]; exact h4.more h3.le2⟩
theorem DEK.full {h0 h : PH} {b be : Nat} {d : Dk} {n : Nat} (hd : DS h0 h b d) (hbe : h.top ≤ be) : DEK h0 (h.new be ⟨[str blockT, .int .i64 n, codeV 4], 3⟩) b (d, some 4) (errV be) :=
  .inr ⟨rfl, h0.new be ⟨[str blockT, .int .i64 n, codeV 4], 3⟩, (PH.Le.refl h0).new _ _ (Nat.le_trans hd.top hbe), hd.new hbe, .wrap blockT n (.code 4), ⟨be, codeV 4, rfl, by rw [PH.new_m, if_pos rfl], rfl⟩, rfl⟩
theorem zG2 (h0 : PH) (b : Nat) (d : Dk) (w0 : World) (h : PH) (hd : DS h0 h b d) (g : Good d) (s : List UInt8) (hs : s.length ≤ 200000) : PCalls Try.prog w0 53 [.pointer (some ⟨b, 0, none⟩), str s] h fun v h' => DEK h0 h' b ((d.append s).1, (d.append s).2.map (·.1)) v := by
  by_cases hno : d.down = false ∧ d.room - d.l.length < (s.length : Int)
  · have ha : d.append s = (d, some (4, (d.l.length : Int))) := by unfold Dk.append; rw [if_pos hno]
    rw [ha]
    refine (zI6 h0 b d w0 h hd g s hs hno).mono ?_
    rintro v h' ⟨be, rfl, hbe, rfl⟩
    exact DEK.full hd hbe
  · refine (append_any h0 b d w0 h hd g s hs).mono ?_
    rintro v h' ⟨h1, h2⟩
    refine .inl ⟨?_, h1, h2.ec⟩
    unfold Dk.append
    rw [if_neg hno]
    split <;> simp
theorem sync_dek (h0 : PH) (b : Nat) (d : Dk) (w0 : World) (h : PH) (hd : DS h0 h b d) (g : Good d) : PCalls Try.prog w0 52 [.pointer (some ⟨b, 0, none⟩)] h fun v h' => DEK h0 h' b (endK d.sync) v := by
  refine (sync_any h0 b d w0 h hd g).mono ?_
  rintro v h' ⟨h1, h2⟩
  refine .inl ⟨?_, h1, h2.ec⟩
  unfold endK Dk.sync
  split <;> simp
theorem EC.held {h : PH} {v : Value} {k : Int} (e : EC h v (some k)) : ∃ t x, v = .iface t x := by
  obtain ⟨e, h1, _⟩ := e; exact h1.held
theorem DEK.eq {h0 h : PH} {b : Nat} {r r' : Dk × Option Int} {v : Value} (e : DEK h0 h b r v) (q : r' = r) : DEK h0 h b r' v := by rw [q]; exact e
set_option maxRecDepth 20000 in
set_option maxHeartbeats 1000000 in
theorem jmark_any {h0 : PH} {b : Nat} {d : Dk} (jv : Value) (gen : Nat) (hg : 1 ≤ gen ∧ gen ≤ 1099511627776) (w0 : World) (h : PH) (hd : DS h0 h b d) (g : Good d) : PCalls Try.prog w0 32 [jv, .pointer (some ⟨b, 0, none⟩), .int .i64 gen] h fun v h' => DEK h0 h' b (markM d gen) v := by
  refine zAp Try.func32 (by kernel_rfl) rfl _ Try.ntmps32 (by kernel_rfl) (by kernel_rfl) _ Try.results32 ?_
  simp -dsimp -implicitDefEqProofs (disch := first | omega | assumption | (simp only [Option.isSome_some,Qt0]; done) | (simp only [List.length_cons,List.length_nil,List.length_append,Int.toNat_natCast] <;> omega) | fail) only [Nat.reduceLT,Nat.reduceLeDiff,Nat.reduceEqDiff,↓reduceIte,Int.reduceLT,Int.reduceLE,Int.reduceToNat,Int.reduceEq,Int.reduceNe,Nat.reduceAdd,Int.reduceAdd,Int.reduceSub,Int.reduceMul,Nat.reduceMul,Qp0,Qp1,Ql0,Qe0]
  refine (sync_dek h0 b d w0 h hd g).mono ?_
  rintro v h1 hk1
  obtain ⟨hd1, he1⟩ := hk1.both
  have g1 := g.sync
  have hm : markM d gen = andK d.sync fun d1 => andK (d1.append (sealP ⟨4, gen, d1.safeV.toNat, []⟩)) fun d2 => endK d2.sync := rfl
  rw [hm]
  unfold andK
  have hsn : (endK d.sync).2 = d.sync.2.map (·.1) := rfl
  have hs1 : (endK d.sync).1 = d.sync.1 := rfl
  rw [hsn] at he1
  rw [hs1] at hd1
  cases hs : d.sync.2 with
  | some k =>
    have hq : endK d.sync = (d.sync.1, some k.1) := by unfold endK; rw [hs]; rfl
    rw [hs] at he1
    obtain ⟨t, x, rfl⟩ := he1.held
    simp -dsimp -implicitDefEqProofs (disch := first | omega | assumption | (simp only [Option.isSome_some,Qt0]; done) | (simp only [List.length_cons,List.length_nil,List.length_append,Int.toNat_natCast] <;> omega) | fail) only [Nat.reduceLT,Nat.reduceLeDiff,Nat.reduceEqDiff,↓reduceIte,Int.reduceLT,Int.reduceLE,Int.reduceToNat,Int.reduceEq,Int.reduceNe,Nat.reduceAdd,Int.reduceAdd,Int.reduceSub,Int.reduceMul,Nat.reduceMul,Qp0,Qp1,Ql0,Qe0]
    exact ⟨_, PH.Le.refl _, hk1.eq hq.symm⟩
  | none =>
    rw [hs] at he1
    obtain rfl : v = .nilIface := he1
    clear hk1 hsn hs1 hm
    generalize d.sync.1 = d1 at *
    obtain ⟨p, hp, hp', hpb⟩ := zD4 g1
    have hS := safe_any h0 b d1 w0 h1 hd1
    rw [hp'] at hS
    have hok : Pt.Ok ⟨4, gen, p, []⟩ := zBh hg.1 hg.2 (by omega) 4 (.inr (.inr rfl))
    have hE := zD0 ⟨4, gen, p, []⟩ hok w0 h1
    unfold ptL at hE
    have hsl := zDo hok
    simp -dsimp -implicitDefEqProofs (disch := first | omega | assumption | (simp only [Option.isSome_some,Qt0]; done) | (simp only [List.length_cons,List.length_nil,List.length_append,Int.toNat_natCast] <;> omega) | fail) only [Nat.reduceLT,Nat.reduceLeDiff,Nat.reduceEqDiff,↓reduceIte,Int.reduceLT,Int.reduceLE,Int.reduceToNat,Int.reduceEq,Int.reduceNe,Nat.reduceAdd,Int.reduceAdd,Int.reduceSub,Int.reduceMul,Nat.reduceMul,Qp0,Qp1,Ql0,Qe0]
    refine hS.mono ?_
    rintro r hz ⟨rfl, hz'⟩
    obtain rfl := hz'.symm
    simp -dsimp -implicitDefEqProofs (disch := first | omega | assumption | (simp only [Option.isSome_some,Qt0]; done) | (simp only [List.length_cons,List.length_nil,List.length_append,Int.toNat_natCast] <;> omega) | fail) only [Nat.reduceLT,Nat.reduceLeDiff,Nat.reduceEqDiff,↓reduceIte,Int.reduceLT,Int.reduceLE,Int.reduceToNat,Int.reduceEq,Int.reduceNe,Nat.reduceAdd,Int.reduceAdd,Int.reduceSub,Int.reduceMul,Nat.reduceMul,Qp0,Qp1,Ql0,Qe0,zA5,zA6]
    refine hE.mono ?_
    rintro r h2 ⟨rfl, hl2⟩
    simp -dsimp -implicitDefEqProofs (disch := first | omega | assumption | (simp only [Option.isSome_some,Qt0]; done) | (simp only [List.length_cons,List.length_nil,List.length_append,Int.toNat_natCast] <;> omega) | fail) only [Nat.reduceLT,Nat.reduceLeDiff,Nat.reduceEqDiff,↓reduceIte,Int.reduceLT,Int.reduceLE,Int.reduceToNat,Int.reduceEq,Int.reduceNe,Nat.reduceAdd,Int.reduceAdd,Int.reduceSub,Int.reduceMul,Nat.reduceMul,Qp0,Qp1,Ql0,Qe0]
    refine (zG2 h0 b d1 w0 h2 (hd1.mono hl2) g1 (sealP ⟨4, gen, p, []⟩) (by omega)).mono ?_
    rintro v h3 hk3
    obtain ⟨hd3, he3⟩ := hk3.both
    have g3 := g1.append (sealP ⟨4, gen, p, []⟩)
    cases hs3 : (d1.append (sealP ⟨4, gen, p, []⟩)).2 with
    | some k =>
      rw [hs3] at he3 hk3
      obtain ⟨t, x, rfl⟩ := he3.held
      simp -dsimp -implicitDefEqProofs (disch := first | omega | assumption | (simp only [Option.isSome_some,Qt0]; done) | (simp only [List.length_cons,List.length_nil,List.length_append,Int.toNat_natCast] <;> omega) | fail) only [Nat.reduceLT,Nat.reduceLeDiff,Nat.reduceEqDiff,↓reduceIte,Int.reduceLT,Int.reduceLE,Int.reduceToNat,Int.reduceEq,Int.reduceNe,Nat.reduceAdd,Int.reduceAdd,Int.reduceSub,Int.reduceMul,Nat.reduceMul,Qp0,Qp1,Ql0,Qe0]
      refine ⟨_, PH.Le.refl _, ?_⟩
      rw [hp, hs3]
      exact hk3
    | none =>
      rw [hs3] at he3
      obtain rfl : v = .nilIface := he3
      simp -dsimp -implicitDefEqProofs (disch := first | omega | assumption | (simp only [Option.isSome_some,Qt0]; done) | (simp only [List.length_cons,List.length_nil,List.length_append,Int.toNat_natCast] <;> omega) | fail) only [Nat.reduceLT,Nat.reduceLeDiff,Nat.reduceEqDiff,↓reduceIte,Int.reduceLT,Int.reduceLE,Int.reduceToNat,Int.reduceEq,Int.reduceNe,Nat.reduceAdd,Int.reduceAdd,Int.reduceSub,Int.reduceMul,Nat.reduceMul,Qp0,Qp1,Ql0,Qe0]
      refine (sync_dek h0 b _ w0 h3 hd3 g3).mono ?_
      rintro v h4 hk4
      simp -dsimp -implicitDefEqProofs (disch := first | omega | assumption | (simp only [Option.isSome_some,Qt0]; done) | (simp only [List.length_cons,List.length_nil,List.length_append,Int.toNat_natCast] <;> omega) | fail) only [Nat.reduceLT,Nat.reduceLeDiff,Nat.reduceEqDiff,↓reduceIte,Int.reduceLT,Int.reduceLE,Int.reduceToNat,Int.reduceEq,Int.reduceNe,Nat.reduceAdd,Int.reduceAdd,Int.reduceSub,Int.reduceMul,Nat.reduceMul,Qp0,Qp1,Ql0,Qe0]
      refine ⟨_, PH.Le.refl _, ?_⟩
      rw [hp, hs3]
      exact hk4
theorem zI8 (w : World) (d : Nat) {P : Program} {ti ty : TypeId} {ms : Array (String × TypeId)} (y : Value) (hi : P.underlying ti = some (.interface ms)) :
    (Op.equalIn (d + 2) ti .nilIface (.iface ty y)).run P w = .ok false w := by
  simp [Op.equalIn, run_underlying hi]
theorem eql_nilc (b : Int) (w : World) : (binOp .eql 36 .nilIface (codeV b)).run Try.prog w = .ok (.bool false) w := by
  unfold codeV
  simp only [binOp]
  simp [Op.equal, Op.maxDepth, zI8 w 9998 (.int .i64 b) Try.underlying36]
theorem y_eqlNC (x y : Tmp) (c : Int) {K : Value → Prop} : Yld Try.prog (binS .eql 36 (.tmp x) (.tmp y) .nilIface (.iface 44 (.int .i64 c))) K = K (.bool false) := zAc fun w => by
  have := eql_nilc c w
  unfold binS eqGuard codeV at *
  simp [this]
set_option maxRecDepth 20000 in
set_option maxHeartbeats 1000000 in
theorem zGr (c : Int) (w0 : World) (h : PH) : PCalls Try.prog w0 14 [.nilIface, codeV c] h fun r h' => r = .bool false ∧ h' = h := by
  refine zAp Try.func14 (by kernel_rfl) rfl _ Try.ntmps14 (by kernel_rfl) (by kernel_rfl) _ Try.results14 ?_
  unfold codeV
  simp -dsimp -implicitDefEqProofs (disch := first | omega | assumption | (simp only [Option.isSome_some,Qt0]; done) | (simp only [List.length_cons,List.length_nil,List.length_append,Int.toNat_natCast] <;> omega) | fail) only [Nat.reduceLT,Nat.reduceLeDiff,Nat.reduceEqDiff,↓reduceIte,Int.reduceLT,Int.reduceLE,Int.reduceToNat,Int.reduceEq,Int.reduceNe,Nat.reduceAdd,Int.reduceAdd,Int.reduceSub,Int.reduceMul,Nat.reduceMul,Qp0,Qp1,Ql0,Qe0,y_eqlNC]
  exact ⟨_, PH.Le.refl _, by first | trivial | rfl, rfl⟩
theorem zHi {d : Dk} (g : Good d) (gen : Nat) : Good (markM d gen).1 := by
  unfold markM andK
  cases d.sync.2 with
  | some e => exact g.sync
  | none =>
    simp only
    cases (d.sync.1.append (sealP ⟨4, gen, d.sync.1.safeV.toNat, []⟩)).2 with
    | some e => exact g.sync.append _
    | none => exact (g.sync.append _).sync
set_option maxRecDepth 20000 in
set_option maxHeartbeats 1000000 in
theorem zI2 {h0 : PH} {b : Nat} {d : Dk} (jv : Value) (gen : Nat) (hg : 1 ≤ gen ∧ gen ≤ 1099511627776) (cut : Nat) (text : List UInt8) (ht : text.length ≤ 200000) (w0 : World) (h : PH) (hd : DS h0 h b d) (g : Good d) : PCalls Try.prog w0 38 [jv, .pointer (some ⟨b, 0, none⟩), .int .i64 gen, .int .i64 cut, str text] h fun v h' => DS h0 h' b (writeM d gen cut text).1 ∧ EC h' v (writeM d gen cut text).2 := by
  refine zAp Try.func38 (by kernel_rfl) rfl _ Try.ntmps38 (by kernel_rfl) (by kernel_rfl) _ Try.results38 ?_
  simp -dsimp -implicitDefEqProofs (disch := first | omega | assumption | (simp only [Option.isSome_some,Qt0]; done) | (simp only [List.length_cons,List.length_nil,List.length_append,Int.toNat_natCast] <;> omega) | fail) only [Nat.reduceLT,Nat.reduceLeDiff,Nat.reduceEqDiff,↓reduceIte,Int.reduceLT,Int.reduceLE,Int.reduceToNat,Int.reduceEq,Int.reduceNe,Nat.reduceAdd,Int.reduceAdd,Int.reduceSub,Int.reduceMul,Nat.reduceMul,Qp0,Qp1,Ql0,Qe0]
  refine (zG2 h0 b d w0 h hd g text ht).mono ?_
  rintro v h1 hk1
  obtain ⟨hd1, he1⟩ := hk1.both
  have g1 := g.append text
  have hw : writeM d gen cut text = fullK (andK (d.append text) fun d1 => markM d1 gen) cut := rfl
  rw [hw]
  cases hs : (d.append text).2 with
  | some k =>
    have hr : (andK (d.append text) fun d1 => markM d1 gen) = ((d.append text).1, some k.1) := by unfold andK; rw [hs]
    rw [hr]
    rw [hs] at he1 hk1
    generalize (d.append text).1 = dX at *
    obtain ⟨t, x, rfl⟩ := he1.held
    have hI := zBa 4 he1 w0
    unfold codeV at hI
    simp -dsimp -implicitDefEqProofs (disch := first | omega | assumption | (simp only [Option.isSome_some,Qt0]; done) | (simp only [List.length_cons,List.length_nil,List.length_append,Int.toNat_natCast] <;> omega) | fail) only [Nat.reduceLT,Nat.reduceLeDiff,Nat.reduceEqDiff,↓reduceIte,Int.reduceLT,Int.reduceLE,Int.reduceToNat,Int.reduceEq,Int.reduceNe,Nat.reduceAdd,Int.reduceAdd,Int.reduceSub,Int.reduceMul,Nat.reduceMul,Qp0,Qp1,Ql0,Qe0]
    refine hI.mono ?_
    rintro r hz ⟨rfl, hz'⟩
    obtain rfl := hz'.symm
    by_cases hk : k.1 = 4
    · have d1 : decide (k.1 = 4) = true := decide_eq_true hk
      rcases hk1 with ⟨n1, _⟩ | ⟨_, q, hq, hdq, heq⟩
      · exact absurd (by simp [hk]) n1
      simp -dsimp -implicitDefEqProofs (disch := first | omega | assumption | (simp only [Option.isSome_some,Qt0]; done) | (simp only [List.length_cons,List.length_nil,List.length_append,Int.toNat_natCast] <;> omega) | fail) only [Nat.reduceLT,Nat.reduceLeDiff,Nat.reduceEqDiff,↓reduceIte,Int.reduceLT,Int.reduceLE,Int.reduceToNat,Int.reduceEq,Int.reduceNe,Nat.reduceAdd,Int.reduceAdd,Int.reduceSub,Int.reduceMul,Nat.reduceMul,Qp0,Qp1,Ql0,Qe0,d1]
      refine (zDr q b dX w0 h1 hdq g1 cut).mono ?_
      rintro v2 h3 ⟨hd3, he3⟩
      have hfull : fullK (dX, some k.1) cut = andK (dX.cut cut) fun d => (d, some 4) := by unfold fullK; rw [if_pos (by simp [hk])]
      rw [hfull]
      unfold andK
      have hec := he3.ec
      cases hs3 : (dX.cut cut).2 with
      | some k3 =>
        rw [hs3] at hec
        obtain ⟨t3, x3, rfl⟩ := hec.held
        simp -dsimp -implicitDefEqProofs (disch := first | omega | assumption | (simp only [Option.isSome_some,Qt0]; done) | (simp only [List.length_cons,List.length_nil,List.length_append,Int.toNat_natCast] <;> omega) | fail) only [Nat.reduceLT,Nat.reduceLeDiff,Nat.reduceEqDiff,↓reduceIte,Int.reduceLT,Int.reduceLE,Int.reduceToNat,Int.reduceEq,Int.reduceNe,Nat.reduceAdd,Int.reduceAdd,Int.reduceSub,Int.reduceMul,Nat.reduceMul,Qp0,Qp1,Ql0,Qe0]
        exact ⟨_, PH.Le.refl _, hd3.base hq, hec⟩
      | none =>
        rw [hs3] at hec
        obtain rfl : v2 = .nilIface := hec
        simp -dsimp -implicitDefEqProofs (disch := first | omega | assumption | (simp only [Option.isSome_some,Qt0]; done) | (simp only [List.length_cons,List.length_nil,List.length_append,Int.toNat_natCast] <;> omega) | fail) only [Nat.reduceLT,Nat.reduceLeDiff,Nat.reduceEqDiff,↓reduceIte,Int.reduceLT,Int.reduceLE,Int.reduceToNat,Int.reduceEq,Int.reduceNe,Nat.reduceAdd,Int.reduceAdd,Int.reduceSub,Int.reduceMul,Nat.reduceMul,Qp0,Qp1,Ql0,Qe0]
        exact ⟨_, PH.Le.refl _, hd3.base hq, heq.more hd3.le2⟩
    · have d1 : decide (k.1 = 4) = false := decide_eq_false hk
      have hfull : fullK (dX, some k.1) cut = (dX, some k.1) := by unfold fullK; rw [if_neg (by simpa using hk)]
      rw [hfull]
      simp -dsimp -implicitDefEqProofs (disch := first | omega | assumption | (simp only [Option.isSome_some,Qt0]; done) | (simp only [List.length_cons,List.length_nil,List.length_append,Int.toNat_natCast] <;> omega) | fail) only [Nat.reduceLT,Nat.reduceLeDiff,Nat.reduceEqDiff,↓reduceIte,Int.reduceLT,Int.reduceLE,Int.reduceToNat,Int.reduceEq,Int.reduceNe,Nat.reduceAdd,Int.reduceAdd,Int.reduceSub,Int.reduceMul,Nat.reduceMul,Qp0,Qp1,Ql0,Qe0,d1]
      exact ⟨_, PH.Le.refl _, hd1, he1⟩
  | none =>
    have hr : (andK (d.append text) fun d1 => markM d1 gen) = markM (d.append text).1 gen := by unfold andK; rw [hs]
    rw [hr]
    rw [hs] at he1
    obtain rfl : v = .nilIface := he1
    clear hk1
    simp only at hd1
    generalize (d.append text).1 = d1 at *
    simp -dsimp -implicitDefEqProofs (disch := first | omega | assumption | (simp only [Option.isSome_some,Qt0]; done) | (simp only [List.length_cons,List.length_nil,List.length_append,Int.toNat_natCast] <;> omega) | fail) only [Nat.reduceLT,Nat.reduceLeDiff,Nat.reduceEqDiff,↓reduceIte,Int.reduceLT,Int.reduceLE,Int.reduceToNat,Int.reduceEq,Int.reduceNe,Nat.reduceAdd,Int.reduceAdd,Int.reduceSub,Int.reduceMul,Nat.reduceMul,Qp0,Qp1,Ql0,Qe0]
    refine (jmark_any jv gen hg w0 h1 hd1 g1).mono ?_
    rintro v h2 hk2
    have g2 := zHi g1 gen
    obtain ⟨hd2, he2⟩ := hk2.both
    generalize markM d1 gen = r at *
    obtain ⟨dX, o⟩ := r
    cases o with
    | none =>
      obtain rfl : v = .nilIface := he2
      have hI := zGr 4 w0 h2
      unfold codeV at hI
      simp -dsimp -implicitDefEqProofs (disch := first | omega | assumption | (simp only [Option.isSome_some,Qt0]; done) | (simp only [List.length_cons,List.length_nil,List.length_append,Int.toNat_natCast] <;> omega) | fail) only [Nat.reduceLT,Nat.reduceLeDiff,Nat.reduceEqDiff,↓reduceIte,Int.reduceLT,Int.reduceLE,Int.reduceToNat,Int.reduceEq,Int.reduceNe,Nat.reduceAdd,Int.reduceAdd,Int.reduceSub,Int.reduceMul,Nat.reduceMul,Qp0,Qp1,Ql0,Qe0]
      refine hI.mono ?_
      rintro r hz ⟨rfl, hz'⟩
      obtain rfl := hz'.symm
      simp -dsimp -implicitDefEqProofs (disch := first | omega | assumption | (simp only [Option.isSome_some,Qt0]; done) | (simp only [List.length_cons,List.length_nil,List.length_append,Int.toNat_natCast] <;> omega) | fail) only [Nat.reduceLT,Nat.reduceLeDiff,Nat.reduceEqDiff,↓reduceIte,Int.reduceLT,Int.reduceLE,Int.reduceToNat,Int.reduceEq,Int.reduceNe,Nat.reduceAdd,Int.reduceAdd,Int.reduceSub,Int.reduceMul,Nat.reduceMul,Qp0,Qp1,Ql0,Qe0]
      exact ⟨_, PH.Le.refl _, hd2, rfl⟩
    | some k =>
      obtain ⟨t, x, rfl⟩ := he2.held
      have hI := zBa 4 he2 w0
      unfold codeV at hI
      simp -dsimp -implicitDefEqProofs (disch := first | omega | assumption | (simp only [Option.isSome_some,Qt0]; done) | (simp only [List.length_cons,List.length_nil,List.length_append,Int.toNat_natCast] <;> omega) | fail) only [Nat.reduceLT,Nat.reduceLeDiff,Nat.reduceEqDiff,↓reduceIte,Int.reduceLT,Int.reduceLE,Int.reduceToNat,Int.reduceEq,Int.reduceNe,Nat.reduceAdd,Int.reduceAdd,Int.reduceSub,Int.reduceMul,Nat.reduceMul,Qp0,Qp1,Ql0,Qe0]
      refine hI.mono ?_
      rintro r hz ⟨rfl, hz'⟩
      obtain rfl := hz'.symm
      by_cases hk : k = 4
      · have d1 : decide (k = 4) = true := decide_eq_true hk
        rcases hk2 with ⟨n1, _⟩ | ⟨_, q, hq, hdq, heq⟩
        · exact absurd (by simp [hk]) n1
        simp -dsimp -implicitDefEqProofs (disch := first | omega | assumption | (simp only [Option.isSome_some,Qt0]; done) | (simp only [List.length_cons,List.length_nil,List.length_append,Int.toNat_natCast] <;> omega) | fail) only [Nat.reduceLT,Nat.reduceLeDiff,Nat.reduceEqDiff,↓reduceIte,Int.reduceLT,Int.reduceLE,Int.reduceToNat,Int.reduceEq,Int.reduceNe,Nat.reduceAdd,Int.reduceAdd,Int.reduceSub,Int.reduceMul,Nat.reduceMul,Qp0,Qp1,Ql0,Qe0,d1]
        refine (zDr q b dX w0 h2 hdq g2 cut).mono ?_
        rintro v2 h3 ⟨hd3, he3⟩
        have hfull : fullK (dX, some k) cut = andK (dX.cut cut) fun d => (d, some 4) := by unfold fullK; rw [if_pos (by simp [hk])]
        rw [hfull]
        unfold andK
        have hec := he3.ec
        cases hs3 : (dX.cut cut).2 with
        | some k3 =>
          rw [hs3] at hec
          obtain ⟨t3, x3, rfl⟩ := hec.held
          simp -dsimp -implicitDefEqProofs (disch := first | omega | assumption | (simp only [Option.isSome_some,Qt0]; done) | (simp only [List.length_cons,List.length_nil,List.length_append,Int.toNat_natCast] <;> omega) | fail) only [Nat.reduceLT,Nat.reduceLeDiff,Nat.reduceEqDiff,↓reduceIte,Int.reduceLT,Int.reduceLE,Int.reduceToNat,Int.reduceEq,Int.reduceNe,Nat.reduceAdd,Int.reduceAdd,Int.reduceSub,Int.reduceMul,Nat.reduceMul,Qp0,Qp1,Ql0,Qe0]
          exact ⟨_, PH.Le.refl _, hd3.base hq, hec⟩
        | none =>
          rw [hs3] at hec
          obtain rfl : v2 = .nilIface := hec
          simp -dsimp -implicitDefEqProofs (disch := first | omega | assumption | (simp only [Option.isSome_some,Qt0]; done) | (simp only [List.length_cons,List.length_nil,List.length_append,Int.toNat_natCast] <;> omega) | fail) only [Nat.reduceLT,Nat.reduceLeDiff,Nat.reduceEqDiff,↓reduceIte,Int.reduceLT,Int.reduceLE,Int.reduceToNat,Int.reduceEq,Int.reduceNe,Nat.reduceAdd,Int.reduceAdd,Int.reduceSub,Int.reduceMul,Nat.reduceMul,Qp0,Qp1,Ql0,Qe0]
          exact ⟨_, PH.Le.refl _, hd3.base hq, heq.more hd3.le2⟩
      · have d1 : decide (k = 4) = false := decide_eq_false hk
        have hfull : fullK (dX, some k) cut = (dX, some k) := by unfold fullK; rw [if_neg (by simpa using hk)]
        rw [hfull]
        simp -dsimp -implicitDefEqProofs (disch := first | omega | assumption | (simp only [Option.isSome_some,Qt0]; done) | (simp only [List.length_cons,List.length_nil,List.length_append,Int.toNat_natCast] <;> omega) | fail) only [Nat.reduceLT,Nat.reduceLeDiff,Nat.reduceEqDiff,↓reduceIte,Int.reduceLT,Int.reduceLE,Int.reduceToNat,Int.reduceEq,Int.reduceNe,Nat.reduceAdd,Int.reduceAdd,Int.reduceSub,Int.reduceMul,Nat.reduceMul,Qp0,Qp1,Ql0,Qe0,d1]
        exact ⟨_, PH.Le.refl _, hd2, he2⟩
end Go.Proofs.Ytblikpbaeippaaa

