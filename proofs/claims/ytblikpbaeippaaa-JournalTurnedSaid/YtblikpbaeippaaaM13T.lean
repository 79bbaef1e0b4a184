/- Parts Jl2, Jq0, Jl3, Wr6, Wr7, Wdb, Wrc, Wrd, Wdi, joined. No condition. -/
import Derived.Test.YtblikpbaeippaaaM11T
import Derived.Test.YtblikpbaeippaaaM12T
import Derived.Test.YtblikpbaeippaaaM5T
namespace Go.Proofs.Ytblikpbaeippaaa
set_option linter.unusedVariables false
set_option linter.unusedSimpArgs false
open Go.RowKit Px Wr
theorem D2.make {h h1 h2 : PH} {a b : Nat} {da db : Dk} (ha : DS h h1 a da) (hb : DS h1 h2 b db) : D2 h h2 a da b db := by
  obtain ⟨A, c, a1, a2, a3⟩ := ha.cells
  obtain ⟨B, e, b1, b2, b3⟩ := hb.cells
  have hl := hb.le2
  have hn : ∀ x, h1.m x = none → h.m x = none := fun x q => by
    cases hk : h.m x with
    | none => rfl
    | some k => rw [ha.same _ _ hk] at q; cases q
  have hab : a ≠ b := fun r => by subst r; rw [hb.low] at a1; cases a1
  refine ⟨Nat.le_trans ha.top hb.top, fun x k e => hl.m _ _ (ha.same x k e), hab, ha.low, hn _ hb.low, A, c, B, e, hl.m _ _ a1, a2.more hl, b1, b2, fun x q => ⟨(a3 x q).1, (a3 x q).2, fun r => ?_⟩, fun x q => ⟨hn _ (b3 x q).1, fun r => ?_, (b3 x q).2⟩, fun x y qx qy r => ?_⟩
  · obtain ⟨k, hk⟩ := a2.known q
    rw [r, hb.low] at hk; cases hk
  · have := (b3 x q).1
    rw [r, a1] at this; cases this
  · obtain ⟨k, hk⟩ := a2.known qx
    have := (b3 y qy).1
    rw [← r, hk] at this; cases this
def dk0 (room : Int) : Dk := ⟨[], 0, room, -1, false⟩
theorem JS.grow {h0 h h' : PH} {j a b g : Nat} {da db : Dk} {o : Bool} (hj : JS h0 h j a b da db g o) (hl : PH.Le h h') : ∃ h1, JS h1 h' j a b da db g o ∧ PH.Le h0 h1 ∧ ∀ x k, h.top ≤ x → h'.m x = some k → h1.m x = some k := by
  obtain ⟨h1, z1, z2, z3, z4, z5⟩ := hj.d2.grow hl
  have hJ : h1.m j = some ⟨jL a b g o, 4⟩ := z2.m _ _ (by rw [PH.new_m, if_pos rfl])
  have hL := (JS.low_le h0 hj.low _).trans z2
  refine ⟨h1.del j, z1.js hJ, ⟨hL.top, fun x k e => ?_⟩, fun x k r1 r2 => ?_⟩
  · rw [PH.del_m, if_neg (fun r => by subst r; rw [hj.low] at e; cases e)]
    exact hL.m x k e
  · have := h.lt _ _ hj.cell
    rw [PH.del_m, if_neg (by omega)]
    exact z5 x k r1 r2
theorem dk0_good {room : Int} (h : 0 ≤ room ∧ room ≤ 1048576) : Good (dk0 room) := ⟨by show (0 : Int) ≤ 0; omega, by show (0 : Int) ≤ ((0 : Nat) : Int); omega, by show 0 ≤ 1048576; omega, h.1, h.2, by show (-1 : Int) ≤ _; omega⟩
theorem dk0_clean {room : Int} (h : 0 ≤ room ∧ room ≤ 1048576) : Clean (dk0 room) [] := ⟨dk0_good h, rfl, rfl, rfl⟩
set_option maxRecDepth 20000 in
theorem two_any (room : Int) (hr : 0 ≤ room ∧ room ≤ 1048576) (w0 : World) (h : PH) : PCalls Try.prog w0 9 [.int .i64 room] h fun v h' => ∃ a b, v = .tuple #[.pointer (some ⟨a, 0, none⟩), .pointer (some ⟨b, 0, none⟩)] ∧ D2 h h' a (dk0 room) b (dk0 room) := by
  refine zAp Try.func9 (by kernel_rfl) rfl _ Try.ntmps9 (by kernel_rfl) (by kernel_rfl) _ Try.results9 ?_
  simp -dsimp -implicitDefEqProofs (disch := first | omega | assumption | (simp only [Option.isSome_some,Qt0]; done) | (simp only [List.length_cons,List.length_nil,List.length_append,Int.toNat_natCast] <;> omega) | fail) only [Nat.reduceLT,Nat.reduceLeDiff,Nat.reduceEqDiff,↓reduceIte,Int.reduceLT,Int.reduceLE,Int.reduceToNat,Int.reduceEq,Int.reduceNe,Nat.reduceAdd,Int.reduceAdd,Int.reduceSub,Int.reduceMul,Nat.reduceMul,Qp0,Qp1,Ql0,Qe0]
  refine (new_ok w0 h room hr).mono ?_
  rintro v h1 ⟨a, rfl, ha⟩
  simp -dsimp -implicitDefEqProofs (disch := first | omega | assumption | (simp only [Option.isSome_some,Qt0]; done) | (simp only [List.length_cons,List.length_nil,List.length_append,Int.toNat_natCast] <;> omega) | fail) only [Nat.reduceLT,Nat.reduceLeDiff,Nat.reduceEqDiff,↓reduceIte,Int.reduceLT,Int.reduceLE,Int.reduceToNat,Int.reduceEq,Int.reduceNe,Nat.reduceAdd,Int.reduceAdd,Int.reduceSub,Int.reduceMul,Nat.reduceMul,Qp0,Qp1,Ql0,Qe0]
  refine (new_ok w0 h1 room hr).mono ?_
  rintro v h2 ⟨b, rfl, hb⟩
  simp -dsimp -implicitDefEqProofs (disch := first | omega | assumption | (simp only [Option.isSome_some,Qt0]; done) | (simp only [List.length_cons,List.length_nil,List.length_append,Int.toNat_natCast] <;> omega) | fail) only [Nat.reduceLT,Nat.reduceLeDiff,Nat.reduceEqDiff,↓reduceIte,Int.reduceLT,Int.reduceLE,Int.reduceToNat,Int.reduceEq,Int.reduceNe,Nat.reduceAdd,Int.reduceAdd,Int.reduceSub,Int.reduceMul,Nat.reduceMul,Qp0,Qp1,Ql0,Qe0]
  exact ⟨_, PH.Le.refl _, a, b, rfl, D2.make ha hb⟩
theorem zIs {h0 : PH} {a b : Nat} {da db : Dk} (k : Int) (mask : List UInt8) (hm : mask.length ≤ 1000000) (w0 : World) (h : PH) (hd : D2 h0 h a da b db) (g : Good da) : PCalls Try.prog w0 15 [.pointer (some ⟨a, 0, none⟩), .int .i64 k, str mask] h fun v h' => D2 h0 h' a (da.crash k mask) b db := by
  obtain ⟨h1, q1, q2, q3⟩ := hd.use
  exact (crash_any h1 a da w0 h q1 g k mask hm).mono fun v h' r => q3 h' _ r
theorem Pres.crash {d : Dk} {g : Nat} {l : List (List UInt8)} {ps : List Pt} (p : Pres d g l ps) (k : Int) (mask : List UInt8) : Pres (d.crash k mask) g l ps :=
  ⟨zG6 p.clean.good p.clean.txt p.clean.safe k mask, p.ok, p.ord, p.gen, p.recs, p.last⟩
theorem payload_36 {x : Pt} (h : x.Ok) : (payload x).length ≤ 36 + x.t.length := by
  have h1 := zA8 (n := x.k) (by have := h.k1; omega)
  have h2 := zA8 (n := x.g) (by have := h.g1; omega)
  have h3 := zA8 (n := x.p) (by have := h.p1; omega)
  have h4 := zA8 (n := x.t.length) (by have := h.t1; omega)
  unfold payload
  simp only [List.length_append]; omega
theorem zB1 {x : Pt} (h : x.Ok) : (sealP x).length ≤ 93 + 2 * x.t.length := by
  have := payload_36 h
  rw [zCm]; omega
theorem start_ok0 {d : Dk} (c : Clean d []) (hf : d.fuse < 0) (hr : 1000 ≤ d.room) : (startM d 0 []).2 = none := by
  have hl : d.l = [] := c.txt
  have hM : startM d 0 [] = andK (d.cut 0) fun d1 => writeM d1 (0 + 1) 0 (flatP (begP (0 + 1) d1.safeV.toNat [])) := rfl
  have hcut := cut_ok c.up hf 0 (by omega)
  have h0 : ((0 : Nat) : Int) = 0 := rfl
  rw [h0] at hcut
  rw [hM]
  unfold andK
  rw [hcut]
  simp only
  have hs := c.safe
  have hsf : (if (0 : Int) < d.safe then (0 : Int) else d.safe) = 0 := by
    rw [hs]; simp
  rw [hsf, hl]
  have hsv : (⟨List.take 0 [], 0, d.room, d.fuse, d.down⟩ : Dk).safeV.toNat = 0 := by unfold Dk.safeV; split <;> rfl
  rw [hsv]
  have k1 : Pt.Ok ⟨1, 0 + 1, 0, []⟩ := zBp (by omega) (by omega) (by omega) 1 (.inl rfl)
  have k3 : Pt.Ok ⟨3, 0 + 1, 0, []⟩ := zBp (by omega) (by omega) (by omega) 3 (.inr (.inl rfl))
  have h1 := zB1 k1
  have h3 := zB1 k3
  have hbl : (flatP (begP (0 + 1) 0 [])).length ≤ 186 := by
    rw [zFa]
    have h2 : flatP (recP (0 + 1) 0 []) = [] := rfl
    rw [h2]
    simp only [List.length_append, List.length_nil] at *; omega
  have k4 : Pt.Ok ⟨4, 0 + 1, ([] ++ flatP (begP (0 + 1) 0 [])).length, []⟩ := zBp (by omega) (by omega) (by rw [List.nil_append]; omega) 4 (.inr (.inr rfl))
  have h4 := zB1 k4
  refine write_ok (by exact c.up) (by exact hf) ?_
  simp only [List.take_nil, List.length_nil] at h4 ⊢
  omega
theorem flat3 {g q : Nat} (hk : AllOk (begP g 0 [] ++ [⟨4, g, q, []⟩])) : (flatP (begP g 0 [] ++ [⟨4, g, q, []⟩])).length ≤ 279 := by
  have h1 := zB1 (hk ⟨1, g, 0, []⟩ (by simp [begP]))
  have h2 := zB1 (hk ⟨3, g, 0, []⟩ (by simp [begP]))
  have h3 := zB1 (hk ⟨4, g, q, []⟩ (by simp [begP]))
  have e : flatP (begP g 0 [] ++ [⟨4, g, q, []⟩]) = sealP ⟨1, g, 0, []⟩ ++ sealP ⟨3, g, 0, []⟩ ++ sealP ⟨4, g, q, []⟩ := by
    simp [flatP, begP, recP]
  rw [e]
  simp only [List.length_append, List.length_nil] at *
  omega
theorem put_ok0 {d : Dk} {g : Nat} {hv : List (List UInt8)} {ps : List Pt} (p : Pres d g hv ps) (hf : d.fuse < 0) (hr : (((flatP ps).length + 200 : Nat) : Int) ≤ d.room) : (PutM d g false [[120]]).2 = none := by
  have hlen := good_len p.clean
  obtain ⟨g1, g2⟩ := p.g1
  have hsf : d.safeV.toNat = (flatP ps).length := by rw [zDp p.clean.up, p.clean.safe, Int.toNat_natCast]
  have hM : PutM d g false [[120]] = writeM d g ((flatP ps).length : Nat) (flatP (recP g (flatP ps).length [[120]])) := by
    unfold PutM
    rw [if_neg (by decide), if_neg (by decide), if_neg (by decide), if_neg (by rw [p.clean.up]; decide), hsf, p.clean.txt]
  rw [hM]
  have hk := zCk (g := g) (p := (flatP ps).length) (l := [[120]]) g1 g2 (by omega) (by decide)
  have h1 := zB1 (hk ⟨2, g, (flatP ps).length, [120]⟩ (by simp [recP]))
  have e : flatP (recP g (flatP ps).length [[120]]) = sealP ⟨2, g, (flatP ps).length, [120]⟩ := by simp [flatP, recP]
  rw [e]
  simp only [List.length_cons, List.length_nil] at h1
  have h4 := zB1 (zBp (g := g) (p := (d.l ++ sealP ⟨2, g, (flatP ps).length, [120]⟩).length) g1 g2 (by rw [p.clean.txt, List.length_append]; omega) 4 (.inr (.inr rfl)))
  refine write_ok p.clean.up hf ?_
  simp only [List.length_nil] at h4
  rw [p.clean.txt] at *
  omega
set_option maxRecDepth 20000 in
set_option maxHeartbeats 4000000 in
theorem awake10_any (w0 : World) (h : PH) : PCalls Try.prog w0 7 [] h fun v h' => v = .bool true ∧ PH.Le h h' := by
  refine zCb fun q0 hlq hlow hut => ?_
  refine zAp Try.func7 (by kernel_rfl) rfl _ Try.ntmps7 (by kernel_rfl) (by kernel_rfl) _ Try.results7 ?_
  simp -dsimp -implicitDefEqProofs (disch := first | omega | assumption | (simp only [Option.isSome_some,Qt0]; done) | (simp only [List.length_cons,List.length_nil,List.length_append,Int.toNat_natCast] <;> omega) | fail) only [Nat.reduceLT,Nat.reduceLeDiff,Nat.reduceEqDiff,↓reduceIte,Int.reduceLT,Int.reduceLE,Int.reduceToNat,Int.reduceEq,Int.reduceNe,Nat.reduceAdd,Int.reduceAdd,Int.reduceSub,Int.reduceMul,Nat.reduceMul,Qp0,Qp1,Ql0,Qe0]
  refine (two_any 10000 (by omega) w0 q0).mono ?_
  rintro v q1 ⟨a, b, rfl, hD⟩
  have hg0 := dk0_good (room := 10000) (by omega)
  have hc0 := dk0_clean (room := 10000) (by omega)
  simp -dsimp -implicitDefEqProofs (disch := first | omega | assumption | (simp only [Option.isSome_some,Qt0]; done) | (simp only [List.length_cons,List.length_nil,List.length_append,Int.toNat_natCast] <;> omega) | fail) only [Nat.reduceLT,Nat.reduceLeDiff,Nat.reduceEqDiff,↓reduceIte,Int.reduceLT,Int.reduceLE,Int.reduceToNat,Int.reduceEq,Int.reduceNe,Nat.reduceAdd,Int.reduceAdd,Int.reduceSub,Int.reduceMul,Nat.reduceMul,Qp0,Qp1,Ql0,Qe0]
  refine (zDr w0 q1 hD hg0 hg0).mono ?_
  rintro v q2 ⟨da', db', e, sw, g, l, hop, hov⟩
  obtain ⟨rfl, rfl, rfl, rfl, rfl, rfl⟩ := zHa hc0 hc0 hop
  have hst := start_ok0 hc0 (by show (-1 : Int) < 0; omega) (by show (1000 : Int) ≤ 10000; omega)
  rw [hst] at hov
  obtain ⟨j, V, h1, rfl, hl1, hj, hV, hVn⟩ := hov
  rw [if_pos rfl] at hj
  rcases zEs hc0 (g := 0) (l := []) (by omega) (fun t ht => by cases ht) (by decide) with ⟨h5, _⟩ | ⟨d1, ext, c1, r1, f1, x1, ⟨q, hq, rfl⟩, wo⟩
  · rw [hst] at h5; cases h5
  rw [hst] at wo
  have hp : Pres (startM (dk0 10000) 0 []).1 1 [] (begP 1 0 [] ++ [⟨4, 1, q, []⟩]) := by
    rcases wo.out with ⟨_, hc⟩ | ⟨h4, _⟩ | ⟨h5, _⟩
    · exact Pres.begun hq x1 hc
    · cases h4
    · cases h5
  have hroom : (startM (dk0 10000) 0 []).1.room = 10000 := by
    rcases wo.room with h | h
    · rw [h, r1]; rfl
    · rw [hp.clean.up] at h; cases h
  have hfuse : (startM (dk0 10000) 0 []).1.fuse < 0 := (wo.fuse (f1 (by show (-1 : Int) < 0; omega))).1
  generalize (startM (dk0 10000) 0 []).1 = db at *
  obtain ⟨A, c, rfl, hc⟩ := hV.len
  simp -dsimp -implicitDefEqProofs (disch := first | omega | assumption | (simp only [Option.isSome_some,Qt0]; done) | (simp only [List.length_cons,List.length_nil,List.length_append,Int.toNat_natCast] <;> omega) | fail) only [Nat.reduceLT,Nat.reduceLeDiff,Nat.reduceEqDiff,↓reduceIte,Int.reduceLT,Int.reduceLE,Int.reduceToNat,Int.reduceEq,Int.reduceNe,Nat.reduceAdd,Int.reduceAdd,Int.reduceSub,Int.reduceMul,Nat.reduceMul,Qp0,Qp1,Ql0,Qe0]
  refine (zEj w0 q2 hj).mono ?_
  rintro v q3 ⟨rfl, rfl⟩
  simp -dsimp -implicitDefEqProofs (disch := first | omega | assumption | (simp only [Option.isSome_some,Qt0]; done) | (simp only [List.length_cons,List.length_nil,List.length_append,Int.toNat_natCast] <;> omega) | fail) only [Nat.reduceLT,Nat.reduceLeDiff,Nat.reduceEqDiff,↓reduceIte,Int.reduceLT,Int.reduceLE,Int.reduceToNat,Int.reduceEq,Int.reduceNe,Nat.reduceAdd,Int.reduceAdd,Int.reduceSub,Int.reduceMul,Nat.reduceMul,Qp0,Qp1,Ql0,Qe0]
  refine zBj (v := str [120]) el_strJ rfl (by omega) fun nb hnb => ?_
  obtain ⟨h2, hj2, hle2, hrow⟩ := hj.grow ((PH.Le.refl q3).new nb ⟨[str [120]], 1⟩ hnb)
  simp -dsimp -implicitDefEqProofs (disch := first | omega | assumption | (simp only [Option.isSome_some,Qt0]; done) | (simp only [List.length_cons,List.length_nil,List.length_append,Int.toNat_natCast] <;> omega) | fail) only [Nat.reduceLT,Nat.reduceLeDiff,Nat.reduceEqDiff,↓reduceIte,Int.reduceLT,Int.reduceLE,Int.reduceToNat,Int.reduceEq,Int.reduceNe,Nat.reduceAdd,Int.reduceAdd,Int.reduceSub,Int.reduceMul,Nat.reduceMul,Qp0,Qp1,Ql0,Qe0]
  have hnr : h2.m nb = some ⟨[str [120]], 1⟩ := hrow nb _ hnb (by rw [PH.new_m, if_pos rfl])
  have hown : Own h2 1 (.slice (some ⟨nb, 0, none⟩) 1 1) 1 [str [120]] := ⟨rfl, .inr ⟨nb, 1, rfl, Nat.le_refl _, by unfold maxLen; omega, hnr⟩⟩
  have hps := flat3 hp.ok
  have hPut := put_ok0 hp hfuse (by rw [hroom]; omega)
  obtain ⟨ext, hx, hwo⟩ := pres_put (l := [[120]]) hp (by decide) (by decide) (by decide)
  refine (jPut_any (some ⟨nb, 0, none⟩) 1 [[120]] w0 _ hj2 hp.clean.good hp.g1 (Rv.own hown) (by decide) (fun h4 _ p hp40 => ?_)).mono ?_
  · have := zH3 (g := 1) (p := p) (l := [[120]]) (by omega) (by omega) (by omega) h4
    simp only [List.length_cons, List.length_nil] at this
    omega
  have hp2 : Pres (PutM db 1 false [[120]]).1 1 [[120]] (begP 1 0 [] ++ [⟨4, 1, q, []⟩] ++ ext) := by
    rcases hwo.out with ⟨_, hc⟩ | ⟨h4, _⟩ | ⟨h5, _⟩
    · exact Pres.more hp.ok hp.ord hp.gen hp.recs hx hc
    · rw [hPut] at h4; cases h4
    · rw [hPut] at h5; cases h5
  rw [hPut]
  generalize (PutM db 1 false [[120]]).1 = dB at *
  rintro v q4 ⟨rfl, hj3⟩
  simp -dsimp -implicitDefEqProofs (disch := first | omega | assumption | (simp only [Option.isSome_some,Qt0]; done) | (simp only [List.length_cons,List.length_nil,List.length_append,Int.toNat_natCast] <;> omega) | fail) only [Nat.reduceLT,Nat.reduceLeDiff,Nat.reduceEqDiff,↓reduceIte,Int.reduceLT,Int.reduceLE,Int.reduceToNat,Int.reduceEq,Int.reduceNe,Nat.reduceAdd,Int.reduceAdd,Int.reduceSub,Int.reduceMul,Nat.reduceMul,Qp0,Qp1,Ql0,Qe0]
  have hd3 : D2 q0 q4 a (dk0 10000) b dB := hj3.d2.symm.base ((hl1.trans hle2).trans (JS.low_le _ hj3.low _))
  refine (zIs 0 [] (by decide) w0 q4 hd3 hg0).mono ?_
  intro v q5 hd4
  simp -dsimp -implicitDefEqProofs (disch := first | omega | assumption | (simp only [Option.isSome_some,Qt0]; done) | (simp only [List.length_cons,List.length_nil,List.length_append,Int.toNat_natCast] <;> omega) | fail) only [Nat.reduceLT,Nat.reduceLeDiff,Nat.reduceEqDiff,↓reduceIte,Int.reduceLT,Int.reduceLE,Int.reduceToNat,Int.reduceEq,Int.reduceNe,Nat.reduceAdd,Int.reduceAdd,Int.reduceSub,Int.reduceMul,Nat.reduceMul,Qp0,Qp1,Ql0,Qe0]
  refine (zIs 0 [] (by decide) w0 q5 hd4.symm hp2.clean.good).mono ?_
  intro v q6 hd5
  have hp3 := hp2.crash 0 []
  have hc3 := zG6 hc0.good hc0.txt hc0.safe 0 []
  generalize dB.crash 0 [] = dC at *
  generalize (dk0 10000).crash 0 [] = dA at *
  simp -dsimp -implicitDefEqProofs (disch := first | omega | assumption | (simp only [Option.isSome_some,Qt0]; done) | (simp only [List.length_cons,List.length_nil,List.length_append,Int.toNat_natCast] <;> omega) | fail) only [Nat.reduceLT,Nat.reduceLeDiff,Nat.reduceEqDiff,↓reduceIte,Int.reduceLT,Int.reduceLE,Int.reduceToNat,Int.reduceEq,Int.reduceNe,Nat.reduceAdd,Int.reduceAdd,Int.reduceSub,Int.reduceMul,Nat.reduceMul,Qp0,Qp1,Ql0,Qe0]
  refine (zDr w0 q6 hd5.symm hc3.good hp3.clean.good).low.mono ?_
  rintro v q7 ⟨⟨dA', dC', e, sw, g, l, hop, hov⟩, hlow7⟩
  obtain ⟨rfl, rfl, rfl, rfl, rfl, rfl⟩ := open_right hp3 hc3.up (by rw [hc3.txt]; exact Old.nil 1) hop
  obtain ⟨j2, V2, h3, rfl, hl3, hj4, hV2, _⟩ := hov
  obtain ⟨A2, c2, rfl, hcc2⟩ := hV2.len
  rw [if_pos rfl] at hj4
  have hrv : Rv w0 q7 A2 [str [120]] := (Rv.own hV2).more hj4.le
  obtain ⟨b2, o2, rfl⟩ := hrv.addr (by decide)
  have hrd : rd w0 q7 ⟨b2, o2, none⟩ = some (str [120]) := by rw [zAa]; exact hrv.get hlow7 (j := 0) rfl
  simp -dsimp -implicitDefEqProofs (disch := first | omega | assumption | (simp only [Option.isSome_some,Qt0]; done) | (simp only [List.length_cons,List.length_nil,List.length_append,Int.toNat_natCast] <;> omega) | fail) only [Nat.reduceLT,Nat.reduceLeDiff,Nat.reduceEqDiff,↓reduceIte,Int.reduceLT,Int.reduceLE,Int.reduceToNat,Int.reduceEq,Int.reduceNe,Nat.reduceAdd,Int.reduceAdd,Int.reduceSub,Int.reduceMul,Nat.reduceMul,Qp0,Qp1,Ql0,Qe0,hrd]
  exact ⟨q7, PH.Le.refl _, trivial, (hlq.trans hl3).trans hj4.le⟩
end Go.Proofs.Ytblikpbaeippaaa


namespace Go.Proofs.Ytblikpbaeippaaa
set_option linter.unusedVariables false
set_option linter.unusedSimpArgs false
open Go.RowKit Px Wr
theorem zEv {α : Type} (g : α → List Value) (m : Nat) (hg : ∀ a, (g a).length = m) : ∀ (L : List α) (i : Nat) (a : α), L[i]? = some a → ((L.flatMap g).drop (i * m)).take m = g a ∧ i * m + m ≤ (L.flatMap g).length
  | [], i, a, h => by simp at h
  | x :: L, 0, a, h => by
    simp at h
    subst h
    have := hg x
    simp only [List.flatMap_cons, Nat.zero_mul, List.drop_zero, List.length_append]
    exact ⟨by rw [← this, List.take_left], by omega⟩
  | x :: L, i + 1, a, h => by
    obtain ⟨h1, h2⟩ := zEv g m hg L i a (by simpa using h)
    have := hg x
    simp only [List.flatMap_cons, List.length_append]
    refine ⟨?_, by rw [Nat.add_mul]; omega⟩
    rw [← h1, show (i + 1) * m = (g x).length + i * m by rw [this, Nat.add_mul]; omega, ← List.drop_drop, List.drop_left]
section
variable {α : Type} {g : α → List Value} {m : Nat} {w0 : World} {h : PH} {b o : Nat} {L : List α}
theorem Px.Rv.part_ (hg : ∀ a, (g a).length = m) (h0 : 0 < m) (r : Rv w0 h (some ⟨b, o, none⟩) (L.flatMap g)) {i : Nat} {x : α} (hx : L[i]? = some x) : Rv w0 h (some ⟨b, o + i * m, none⟩) (g x) := fun j u eu => by
  obtain ⟨h1, h2⟩ := zEv g m hg L i x hx
  have hj : j < m := by rw [← hg x]; exact (List.getElem?_eq_some_iff.1 eu).1
  have e2 : (L.flatMap g)[i * m + j]? = some u := by rw [← h1, List.getElem?_take_of_lt hj, List.getElem?_drop] at eu; exact eu
  obtain ⟨b', o', h3, h4⟩ := r (i * m + j) u e2
  injection h3 with h3
  injection h3 with h3 h5
  subst h3; subst h5
  exact ⟨b, o + i * m, rfl, by rw [Nat.add_assoc]; exact h4⟩
theorem Px.Rv.addr_ (hg : ∀ a, (g a).length = m) (h0 : 0 < m) {A : Option Addr} (r : Rv w0 h A (L.flatMap g)) {i : Nat} {x : α} (hx : L[i]? = some x) : ∃ b o, A = some ⟨b, o, none⟩ :=
  r.addr (by have := (zEv g m hg L i x hx).2; omega)
theorem Px.Rv.chunk (hg : ∀ a, (g a).length = m) (h0 : 0 < m) (r : Rv w0 h (some ⟨b, o, none⟩) (L.flatMap g)) (hl : Low w0 h) {i : Nat} {x : α} (hx : L[i]? = some x) : Px.rdN w0 h ⟨b, o + i * m, none⟩ m = some (g x) :=
  (r.part_ hg h0 hx).rdN hl (hg x) h0
end
theorem Px.Rv.text {w0 : World} {h : PH} {b o : Nat} {l : List (List UInt8)} (r : Rv w0 h (some ⟨b, o, none⟩) (l.map str)) (hl : Low w0 h) {i : Nat} {x : List UInt8} (hx : l[i]? = some x) : rd w0 h ⟨b, o + i, none⟩ = some (str x) := by
  rw [zAa]; exact r.get hl (j := i) (by rw [List.getElem?_map, hx]; rfl)
structure Oj where
  K : Int
  L : List (List UInt8)
  D : Bool
  N : Int
  M : Int
  S : List UInt8
abbrev Ojp := Oj × Option Addr × Nat
def ojL (p : Ojp) : List Value := [.int .i64 p.1.K, .slice p.2.1 p.1.L.length p.2.2, .bool p.1.D, .int .i64 p.1.N, .int .i64 p.1.M, str p.1.S]
theorem zEl (p : Ojp) : (ojL p).length = 6 := rfl
theorem ojL_one (p : Ojp) : allOne (ojL p) := zDl _ rfl
def GoodO (w0 : World) (h : PH) (p : Ojp) : Prop := p.1.L.length ≤ p.2.2 ∧ Rv w0 h p.2.1 (p.1.L.map str)
theorem GoodO.more {w0 : World} {h h' : PH} {p : Ojp} (g : GoodO w0 h p) (l : PH.Le h h') : GoodO w0 h' p := ⟨g.1, g.2.more l⟩
def Scr (w0 : World) (h : PH) (A : Option Addr) (z : List Ojp) : Prop := Rv w0 h A (z.flatMap ojL) ∧ ∀ p ∈ z, GoodO w0 h p
theorem Scr.more {w0 : World} {h h' : PH} {A : Option Addr} {z : List Ojp} (s : Scr w0 h A z) (l : PH.Le h h') : Scr w0 h' A z := ⟨s.1.more l, fun p hp => (s.2 p hp).more l⟩
def tot (l : List (List UInt8)) : Nat := (l.map List.length).sum
def FitO (p : Ojp) : Prop := p.1.L.length ≤ 450 ∧ tot p.1.L ≤ 6000
def GRS (z : List Ojp) (r : Value) : Prop := ∃ b : Bool, r = .bool b ∧ (b = false → z.length ≤ 40 ∧ ∀ p ∈ z, FitO p)
theorem tot_take {l : List (List UInt8)} {i : Nat} {x : List UInt8} (h : l[i]? = some x) : tot (l.take (i + 1)) = tot (l.take i) + x.length := by
  have h2 : l.take (i + 1) = l.take i ++ [x] := by rw [List.take_add_one, h]; rfl
  rw [h2]
  simp [tot]
set_option maxRecDepth 20000 in
set_option maxHeartbeats 4000000 in
theorem great10_any (A : Option Addr) (c : Nat) (z : List Ojp) (w0 : World) (h : PH) (hz : Scr w0 h A z) (hc : z.length ≤ c) : PCalls Try.prog w0 8 [.slice A z.length c] h fun r h' => GRS z r ∧ PH.Le h h' := by
  refine zAp Try.func8 (by kernel_rfl) rfl _ Try.ntmps8 (by kernel_rfl) (by kernel_rfl) _ Try.results8 ?_
  have hyes : ∀ hh, PH.Le h hh → GRS z (.bool true) ∧ PH.Le h hh := fun hh l => ⟨⟨true, rfl, fun e => by cases e⟩, l⟩
  obtain ⟨b1, hb1⟩ : ∃ b, decide ((z.length : Int) > 40) = b := ⟨_, rfl⟩
  cases b1
  rotate_left
  · simp -dsimp -implicitDefEqProofs (disch := first | omega | assumption | (simp only [Option.isSome_some,Qt0]; done) | (simp only [List.length_cons,List.length_nil,List.length_append,Int.toNat_natCast] <;> omega) | fail) only [Nat.reduceLT,Nat.reduceLeDiff,Nat.reduceEqDiff,↓reduceIte,Int.reduceLT,Int.reduceLE,Int.reduceToNat,Int.reduceEq,Int.reduceNe,Nat.reduceAdd,Int.reduceAdd,Int.reduceSub,Int.reduceMul,Nat.reduceMul,Qp0,Qp1,Ql0,Qe0,hb1]
    exact ⟨_, PH.Le.refl _, hyes _ (PH.Le.refl _)⟩
  have t1 := of_decide_eq_false hb1
  simp -dsimp -implicitDefEqProofs (disch := first | omega | assumption | (simp only [Option.isSome_some,Qt0]; done) | (simp only [List.length_cons,List.length_nil,List.length_append,Int.toNat_natCast] <;> omega) | fail) only [Nat.reduceLT,Nat.reduceLeDiff,Nat.reduceEqDiff,↓reduceIte,Int.reduceLT,Int.reduceLE,Int.reduceToNat,Int.reduceEq,Int.reduceNe,Nat.reduceAdd,Int.reduceAdd,Int.reduceSub,Int.reduceMul,Nat.reduceMul,Qp0,Qp1,Ql0,Qe0,hb1]
  refine zB5 (fun n f h' => ∃ i : Nat, n + i = z.length ∧ f 11 = some (.slice A z.length c) ∧ f 12 = some (.int .i64 z.length) ∧ f 13 = some (.int .i64 i) ∧ PH.Le h h' ∧ (∀ j y, j < i → z[j]? = some y → FitO y)) (by kernel_rfl) z.length ⟨0, by omega, ?_, ?_, ?_, PH.Le.refl _, fun j y hj => by omega⟩ ?_
  · simp -dsimp -implicitDefEqProofs (disch := first | omega | assumption | (simp only [Option.isSome_some,Qt0]; done) | (simp only [List.length_cons,List.length_nil,List.length_append,Int.toNat_natCast] <;> omega) | fail) only [Nat.reduceLT,Nat.reduceLeDiff,Nat.reduceEqDiff,↓reduceIte,Int.reduceLT,Int.reduceLE,Int.reduceToNat,Int.reduceEq,Int.reduceNe,Nat.reduceAdd,Int.reduceAdd,Int.reduceSub,Int.reduceMul,Nat.reduceMul,Qp0,Qp1,Ql0,Qe0]
  · simp -dsimp -implicitDefEqProofs (disch := first | omega | assumption | (simp only [Option.isSome_some,Qt0]; done) | (simp only [List.length_cons,List.length_nil,List.length_append,Int.toNat_natCast] <;> omega) | fail) only [Nat.reduceLT,Nat.reduceLeDiff,Nat.reduceEqDiff,↓reduceIte,Int.reduceLT,Int.reduceLE,Int.reduceToNat,Int.reduceEq,Int.reduceNe,Nat.reduceAdd,Int.reduceAdd,Int.reduceSub,Int.reduceMul,Nat.reduceMul,Qp0,Qp1,Ql0,Qe0]
  · simp -dsimp -implicitDefEqProofs (disch := first | omega | assumption | (simp only [Option.isSome_some,Qt0]; done) | (simp only [List.length_cons,List.length_nil,List.length_append,Int.toNat_natCast] <;> omega) | fail) only [Nat.reduceLT,Nat.reduceLeDiff,Nat.reduceEqDiff,↓reduceIte,Int.reduceLT,Int.reduceLE,Int.reduceToNat,Int.reduceEq,Int.reduceNe,Nat.reduceAdd,Int.reduceAdd,Int.reduceSub,Int.reduceMul,Nat.reduceMul,Qp0,Qp1,Ql0,Qe0]
    try rfl
  rintro n f h' ⟨i, hni, f11, f12, f13, hl', hall⟩ hlow'
  by_cases hi : i < z.length
  rotate_left
  · have e2 : decide ((i : Int) < (z.length : Int)) = false := decide_eq_false (by omega)
    simp -dsimp -implicitDefEqProofs (disch := first | omega | assumption | (simp only [Option.isSome_some,Qt0]; done) | (simp only [List.length_cons,List.length_nil,List.length_append,Int.toNat_natCast] <;> omega) | fail) only [Nat.reduceLT,Nat.reduceLeDiff,Nat.reduceEqDiff,↓reduceIte,Int.reduceLT,Int.reduceLE,Int.reduceToNat,Int.reduceEq,Int.reduceNe,Nat.reduceAdd,Int.reduceAdd,Int.reduceSub,Int.reduceMul,Nat.reduceMul,Qp0,Qp1,Ql0,Qe0,f11,f12,f13,e2]
    refine ⟨_, PH.Le.refl _, ⟨false, by first | rfl | trivial, fun _ => ⟨by omega, fun p hp => ?_⟩⟩, hl'⟩
    obtain ⟨j, hj, rfl⟩ := List.getElem_of_mem hp
    exact hall j _ (by omega) (List.getElem?_eq_getElem hj)
  have e2 : decide ((i : Int) < (z.length : Int)) = true := decide_eq_true (by omega)
  obtain ⟨p, hx⟩ : ∃ p, z[i]? = some p := ⟨_, List.getElem?_eq_getElem hi⟩
  obtain ⟨b, o, rfl⟩ := hz.1.addr_ zEl (by omega) hx
  have hrd := (hz.1.more hl').chunk zEl (by omega) hlow' hx
  have ha : allOne (ojL p) := ojL_one _
  obtain ⟨gc, gr⟩ := (hz.2 p (List.mem_of_getElem? hx))
  obtain ⟨⟨K, L, D, N, M, S⟩, B, cb⟩ := p
  unfold ojL at hrd ha
  simp only at hrd ha gc gr
  have hT : (i : Int).toNat = i := Int.toNat_natCast i
  simp -dsimp -implicitDefEqProofs (disch := first | omega | assumption | (simp only [Option.isSome_some,Qt0]; done) | (simp only [List.length_cons,List.length_nil,List.length_append,Int.toNat_natCast] <;> omega) | fail) only [Nat.reduceLT,Nat.reduceLeDiff,Nat.reduceEqDiff,↓reduceIte,Int.reduceLT,Int.reduceLE,Int.reduceToNat,Int.reduceEq,Int.reduceNe,Nat.reduceAdd,Int.reduceAdd,Int.reduceSub,Int.reduceMul,Nat.reduceMul,Qp0,Qp1,Ql0,Qe0,f11,f12,f13,e2,hrd]
  refine fun xb hxb => ?_
  obtain ⟨h1, hh1⟩ : ∃ h1, h'.new xb ⟨[.int .i64 K, .slice B L.length cb, .bool D, .int .i64 N, .int .i64 M, str S], 6⟩ = h1 := ⟨_, rfl⟩
  have hl1 : PH.Le h' h1 := by rw [← hh1]; exact (PH.Le.refl h').new _ _ hxb
  have hm1 : h1.m xb = some ⟨[.int .i64 K, .slice B L.length cb, .bool D, .int .i64 N, .int .i64 M, str S], 6⟩ := by rw [← hh1, PH.new_m, if_pos rfl]
  have hlq1 := hl'.trans hl1
  obtain ⟨d1, hd1⟩ : ∃ b, decide ((L.length : Int) > 450) = b := ⟨_, rfl⟩
  obtain ⟨d2, hd2⟩ : ∃ b, decide ((S.length : Int) > 3000) = b := ⟨_, rfl⟩
  cases d1
  rotate_left
  · simp -dsimp -implicitDefEqProofs (disch := first | omega | assumption | (simp only [Option.isSome_some,Qt0]; done) | (simp only [List.length_cons,List.length_nil,List.length_append,Int.toNat_natCast] <;> omega) | fail) only [Nat.reduceLT,Nat.reduceLeDiff,Nat.reduceEqDiff,↓reduceIte,Int.reduceLT,Int.reduceLE,Int.reduceToNat,Int.reduceEq,Int.reduceNe,Nat.reduceAdd,Int.reduceAdd,Int.reduceSub,Int.reduceMul,Nat.reduceMul,Qp0,Qp1,Ql0,Qe0,f11,f12,f13,List.set_cons_zero,List.set_cons_succ,List.take_zero,List.drop_succ_cons,List.drop_zero,List.drop_nil,List.nil_append,List.append_nil,List.take_succ_cons,ite_true,PH.new_new,hh1,zAa,zAb,hm1,hd1]
    exact ⟨_, PH.Le.refl _, hyes _ hlq1⟩
  cases d2
  rotate_left
  · simp -dsimp -implicitDefEqProofs (disch := first | omega | assumption | (simp only [Option.isSome_some,Qt0]; done) | (simp only [List.length_cons,List.length_nil,List.length_append,Int.toNat_natCast] <;> omega) | fail) only [Nat.reduceLT,Nat.reduceLeDiff,Nat.reduceEqDiff,↓reduceIte,Int.reduceLT,Int.reduceLE,Int.reduceToNat,Int.reduceEq,Int.reduceNe,Nat.reduceAdd,Int.reduceAdd,Int.reduceSub,Int.reduceMul,Nat.reduceMul,Qp0,Qp1,Ql0,Qe0,f11,f12,f13,List.set_cons_zero,List.set_cons_succ,List.take_zero,List.drop_succ_cons,List.drop_zero,List.drop_nil,List.nil_append,List.append_nil,List.take_succ_cons,ite_true,PH.new_new,hh1,zAa,zAb,hm1,hd1,hd2]
    exact ⟨_, PH.Le.refl _, hyes _ hlq1⟩
  have u1 := of_decide_eq_false hd1
  simp -dsimp -implicitDefEqProofs (disch := first | omega | assumption | (simp only [Option.isSome_some,Qt0]; done) | (simp only [List.length_cons,List.length_nil,List.length_append,Int.toNat_natCast] <;> omega) | fail) only [Nat.reduceLT,Nat.reduceLeDiff,Nat.reduceEqDiff,↓reduceIte,Int.reduceLT,Int.reduceLE,Int.reduceToNat,Int.reduceEq,Int.reduceNe,Nat.reduceAdd,Int.reduceAdd,Int.reduceSub,Int.reduceMul,Nat.reduceMul,Qp0,Qp1,Ql0,Qe0,f11,f12,f13,List.set_cons_zero,List.set_cons_succ,List.take_zero,List.drop_succ_cons,List.drop_zero,List.drop_nil,List.nil_append,List.append_nil,List.take_succ_cons,ite_true,PH.new_new,hh1,zAa,zAb,hm1,hd1,hd2]
  refine zB5 (fun n2 f h2 => ∃ k : Nat, n2 + k = L.length ∧ f 11 = some (.slice (some ⟨b, o, none⟩) z.length c) ∧ f 12 = some (.int .i64 z.length) ∧ f 13 = some (.int .i64 i) ∧ f 28 = some (.slice B L.length cb) ∧ f 29 = some (.int .i64 L.length) ∧ f 30 = some (.int .i64 k) ∧ f 5 = some (.int .i64 (tot (L.take k))) ∧ tot (L.take k) ≤ 6000 ∧ PH.Le h h2) (by kernel_rfl) L.length ⟨0, by omega, ?_, ?_, ?_, ?_, ?_, ?_, ?_, ?_, hlq1⟩ ?_
  · simp -dsimp -implicitDefEqProofs (disch := first | omega | assumption | (simp only [Option.isSome_some,Qt0]; done) | (simp only [List.length_cons,List.length_nil,List.length_append,Int.toNat_natCast] <;> omega) | fail) only [Nat.reduceLT,Nat.reduceLeDiff,Nat.reduceEqDiff,↓reduceIte,Int.reduceLT,Int.reduceLE,Int.reduceToNat,Int.reduceEq,Int.reduceNe,Nat.reduceAdd,Int.reduceAdd,Int.reduceSub,Int.reduceMul,Nat.reduceMul,Qp0,Qp1,Ql0,Qe0,f11]
  · simp -dsimp -implicitDefEqProofs (disch := first | omega | assumption | (simp only [Option.isSome_some,Qt0]; done) | (simp only [List.length_cons,List.length_nil,List.length_append,Int.toNat_natCast] <;> omega) | fail) only [Nat.reduceLT,Nat.reduceLeDiff,Nat.reduceEqDiff,↓reduceIte,Int.reduceLT,Int.reduceLE,Int.reduceToNat,Int.reduceEq,Int.reduceNe,Nat.reduceAdd,Int.reduceAdd,Int.reduceSub,Int.reduceMul,Nat.reduceMul,Qp0,Qp1,Ql0,Qe0,f12]
  · simp -dsimp -implicitDefEqProofs (disch := first | omega | assumption | (simp only [Option.isSome_some,Qt0]; done) | (simp only [List.length_cons,List.length_nil,List.length_append,Int.toNat_natCast] <;> omega) | fail) only [Nat.reduceLT,Nat.reduceLeDiff,Nat.reduceEqDiff,↓reduceIte,Int.reduceLT,Int.reduceLE,Int.reduceToNat,Int.reduceEq,Int.reduceNe,Nat.reduceAdd,Int.reduceAdd,Int.reduceSub,Int.reduceMul,Nat.reduceMul,Qp0,Qp1,Ql0,Qe0,f13]
  · simp -dsimp -implicitDefEqProofs (disch := first | omega | assumption | (simp only [Option.isSome_some,Qt0]; done) | (simp only [List.length_cons,List.length_nil,List.length_append,Int.toNat_natCast] <;> omega) | fail) only [Nat.reduceLT,Nat.reduceLeDiff,Nat.reduceEqDiff,↓reduceIte,Int.reduceLT,Int.reduceLE,Int.reduceToNat,Int.reduceEq,Int.reduceNe,Nat.reduceAdd,Int.reduceAdd,Int.reduceSub,Int.reduceMul,Nat.reduceMul,Qp0,Qp1,Ql0,Qe0]
  · simp -dsimp -implicitDefEqProofs (disch := first | omega | assumption | (simp only [Option.isSome_some,Qt0]; done) | (simp only [List.length_cons,List.length_nil,List.length_append,Int.toNat_natCast] <;> omega) | fail) only [Nat.reduceLT,Nat.reduceLeDiff,Nat.reduceEqDiff,↓reduceIte,Int.reduceLT,Int.reduceLE,Int.reduceToNat,Int.reduceEq,Int.reduceNe,Nat.reduceAdd,Int.reduceAdd,Int.reduceSub,Int.reduceMul,Nat.reduceMul,Qp0,Qp1,Ql0,Qe0]
  · simp -dsimp -implicitDefEqProofs (disch := first | omega | assumption | (simp only [Option.isSome_some,Qt0]; done) | (simp only [List.length_cons,List.length_nil,List.length_append,Int.toNat_natCast] <;> omega) | fail) only [Nat.reduceLT,Nat.reduceLeDiff,Nat.reduceEqDiff,↓reduceIte,Int.reduceLT,Int.reduceLE,Int.reduceToNat,Int.reduceEq,Int.reduceNe,Nat.reduceAdd,Int.reduceAdd,Int.reduceSub,Int.reduceMul,Nat.reduceMul,Qp0,Qp1,Ql0,Qe0]
    try rfl
  · simp -dsimp -implicitDefEqProofs (disch := first | omega | assumption | (simp only [Option.isSome_some,Qt0]; done) | (simp only [List.length_cons,List.length_nil,List.length_append,Int.toNat_natCast] <;> omega) | fail) only [Nat.reduceLT,Nat.reduceLeDiff,Nat.reduceEqDiff,↓reduceIte,Int.reduceLT,Int.reduceLE,Int.reduceToNat,Int.reduceEq,Int.reduceNe,Nat.reduceAdd,Int.reduceAdd,Int.reduceSub,Int.reduceMul,Nat.reduceMul,Qp0,Qp1,Ql0,Qe0]
    try rfl
  · show 0 ≤ 6000; omega
  rintro n2 f2 h2 ⟨k, hnk, g11, g12, g13, g28, g29, g30, g5, htot, hl2⟩ hlow2
  by_cases hk : k < L.length
  rotate_left
  · have e3 : decide ((k : Int) < (L.length : Int)) = false := decide_eq_false (by omega)
    simp -dsimp -implicitDefEqProofs (disch := first | omega | assumption | (simp only [Option.isSome_some,Qt0]; done) | (simp only [List.length_cons,List.length_nil,List.length_append,Int.toNat_natCast] <;> omega) | fail) only [Nat.reduceLT,Nat.reduceLeDiff,Nat.reduceEqDiff,↓reduceIte,Int.reduceLT,Int.reduceLE,Int.reduceToNat,Int.reduceEq,Int.reduceNe,Nat.reduceAdd,Int.reduceAdd,Int.reduceSub,Int.reduceMul,Nat.reduceMul,Qp0,Qp1,Ql0,Qe0,g11,g12,g13,g28,g29,g30,e3]
    refine ⟨n - 1, _, by omega, PH.Le.refl _, i + 1, by omega, by trivial, by trivial, by simp, hl2, fun j y hj hy => ?_⟩
    by_cases hji : j = i
    · subst hji
      rw [hx] at hy
      obtain rfl := Option.some.inj hy
      rw [List.take_of_length_le (by omega)] at htot
      exact ⟨by show L.length ≤ 450; omega, htot⟩
    · exact hall j y (by omega) hy
  have e3 : decide ((k : Int) < (L.length : Int)) = true := decide_eq_true (by omega)
  obtain ⟨t, ht⟩ : ∃ t, L[k]? = some t := ⟨_, List.getElem?_eq_getElem hk⟩
  obtain ⟨b', o', rfl⟩ := gr.addr (by rw [List.length_map]; omega)
  have hgx := (gr.more hl2).text hlow2 ht
  have hT2 : (k : Int).toNat = k := Int.toNat_natCast k
  have htt := tot_take ht
  obtain ⟨d3, hd3⟩ : ∃ b, decide ((t.length : Int) > 5000) = b := ⟨_, rfl⟩
  cases d3
  rotate_left
  · simp -dsimp -implicitDefEqProofs (disch := first | omega | assumption | (simp only [Option.isSome_some,Qt0]; done) | (simp only [List.length_cons,List.length_nil,List.length_append,Int.toNat_natCast] <;> omega) | fail) only [Nat.reduceLT,Nat.reduceLeDiff,Nat.reduceEqDiff,↓reduceIte,Int.reduceLT,Int.reduceLE,Int.reduceToNat,Int.reduceEq,Int.reduceNe,Nat.reduceAdd,Int.reduceAdd,Int.reduceSub,Int.reduceMul,Nat.reduceMul,Qp0,Qp1,Ql0,Qe0,g11,g12,g13,g28,g29,g30,g5,e3,hT2,hgx,hd3]
    exact ⟨_, PH.Le.refl _, hyes _ hl2⟩
  have u3 := of_decide_eq_false hd3
  obtain ⟨d4, hd4⟩ : ∃ b, decide ((tot (L.take k) : Int) + (t.length : Int) > 6000) = b := ⟨_, rfl⟩
  cases d4
  rotate_left
  · simp -dsimp -implicitDefEqProofs (disch := first | omega | assumption | (simp only [Option.isSome_some,Qt0]; done) | (simp only [List.length_cons,List.length_nil,List.length_append,Int.toNat_natCast] <;> omega) | fail) only [Nat.reduceLT,Nat.reduceLeDiff,Nat.reduceEqDiff,↓reduceIte,Int.reduceLT,Int.reduceLE,Int.reduceToNat,Int.reduceEq,Int.reduceNe,Nat.reduceAdd,Int.reduceAdd,Int.reduceSub,Int.reduceMul,Nat.reduceMul,Qp0,Qp1,Ql0,Qe0,g11,g12,g13,g28,g29,g30,g5,e3,hT2,hgx,hd3,hd4]
    exact ⟨_, PH.Le.refl _, hyes _ hl2⟩
  have u4 := of_decide_eq_false hd4
  simp -dsimp -implicitDefEqProofs (disch := first | omega | assumption | (simp only [Option.isSome_some,Qt0]; done) | (simp only [List.length_cons,List.length_nil,List.length_append,Int.toNat_natCast] <;> omega) | fail) only [Nat.reduceLT,Nat.reduceLeDiff,Nat.reduceEqDiff,↓reduceIte,Int.reduceLT,Int.reduceLE,Int.reduceToNat,Int.reduceEq,Int.reduceNe,Nat.reduceAdd,Int.reduceAdd,Int.reduceSub,Int.reduceMul,Nat.reduceMul,Qp0,Qp1,Ql0,Qe0,g11,g12,g13,g28,g29,g30,g5,e3,hT2,hgx,hd3,hd4]
  exact ⟨n2 - 1, _, by omega, PH.Le.refl _, k + 1, by omega, by trivial, by trivial, by trivial, by trivial, by trivial, by simp, by rw [htt]; simp, by omega, hl2⟩
end Go.Proofs.Ytblikpbaeippaaa


namespace Go.Proofs.Ytblikpbaeippaaa
set_option linter.unusedVariables false
set_option linter.unusedSimpArgs false
open Go.RowKit Px Wr
theorem flat_tot {ps : List Pt} (h : AllOk ps) : (flatP ps).length ≤ ps.length * 93 + 2 * tot (ps.map (·.t)) := by
  induction ps with
  | nil => simp [flatP, tot]
  | cons x l ih =>
    have h1 := zB1 (h x List.mem_cons_self)
    have h2 := ih (fun y hy => h y (List.mem_cons_of_mem _ hy))
    have e1 : flatP (x :: l) = sealP x ++ flatP l := by simp [flatP]
    have e2 : tot ((x :: l).map (·.t)) = x.t.length + tot (l.map (·.t)) := by simp [tot]
    rw [e1, e2, List.length_append, List.length_cons]
    omega
theorem recP_t (g p : Nat) (l : List (List UInt8)) : (recP g p l).map (·.t) = l := by
  unfold recP; rw [List.map_map]; exact List.map_id _
theorem put_size {l : List (List UInt8)} {g : Nat} (h1 : 1 ≤ g) (h2 : g ≤ 1099511627776) (hl : l.length ≤ 450) (ht : tot l ≤ 6000) : (∀ t ∈ l, t.length ≤ 4096) → l.length ≤ 400 → ∀ p, p ≤ 1048576 → (flatP (recP g p l)).length ≤ 200000 := fun h4 _ p hp => by
  have := flat_tot (zCk (g := g) (p := p) (l := l) h1 h2 (by omega) h4)
  rw [zD0, recP_t] at this
  omega
theorem start_size {l : List (List UInt8)} {g : Nat} (hl : l.length ≤ 450) (ht : tot l ≤ 6000) : (∀ t ∈ l, t.length ≤ 4096) → g < 1099511627776 → ∀ p, p ≤ 1048576 → (flatP (begP (g + 1) p l)).length ≤ 200000 := fun h4 hg p hp => by
  have := flat_tot (begP_ok (g := g + 1) (p := p) (l := l) (by omega) (by omega) (by omega) h4)
  have e : tot ((begP (g + 1) p l).map (·.t)) = tot l := by
    unfold begP
    rw [List.map_cons, List.map_append, recP_t]
    simp [tot]
  rw [zIw, e] at this
  omega
theorem put_full {d : Dk} {g : Nat} {hv l : List (List UInt8)} {ps : List Pt} (p : Pres d g hv ps) (hf : d.fuse < 0) :
    (((PutM d g false l).2 = none ∧ ∃ ps', Pres (PutM d g false l).1 g (hv ++ l) ps') ∨ (((PutM d g false l).2 = some 3 ∨ (PutM d g false l).2 = some 4) ∧ Pres (PutM d g false l).1 g hv ps)) ∧ (PutM d g false l).1.fuse < 0 ∧ PutO false l (PutM d g false l).2 = false := by
  by_cases h0 : l = []
  · subst h0
    have hM : PutM d g false [] = (d, none) := by unfold PutM; rw [if_neg (by decide), if_pos rfl]
    have hO : PutO false ([] : List (List UInt8)) none = false := by unfold PutO; rw [if_pos (.inr (.inl rfl))]
    rw [hM]
    exact ⟨.inl ⟨rfl, ps, by rw [List.append_nil]; exact p⟩, hf, hO⟩
  by_cases h1 : 400 < l.length ∨ (l.any fun s => decide (4096 < s.length)) = true
  · have hM : PutM d g false l = (d, some 3) := by unfold PutM; rw [if_neg (by decide), if_neg h0, if_pos h1]
    rw [hM]
    exact ⟨.inr ⟨.inl rfl, p⟩, hf, by unfold PutO; rw [if_pos (.inr (.inr h1))]⟩
  have h2 : (l.any fun s => decide (4096 < s.length)) = false := by
    cases h : (l.any fun s => decide (4096 < s.length)) with
    | false => rfl
    | true => exact absurd (.inr h) h1
  obtain ⟨ext, hx, hw⟩ := pres_put p (zEa h2) (by omega) h0
  obtain ⟨f1, f2⟩ := hw.fuse hf
  have hO : ∀ k, k ≠ some 5 → (k = none ∨ k = some 4) → PutO false l k = false := fun k _ hk => by
    unfold PutO
    rw [if_neg (by rintro (h | h | h) <;> first | exact h0 h | exact h1 h | cases h)]
    rcases hk with rfl | rfl <;> rfl
  refine ⟨?_, f1, ?_⟩
  · rcases hw.out with ⟨h3, hc⟩ | ⟨h4, hc⟩ | ⟨h5, _⟩
    · exact .inl ⟨h3, _, Pres.more p.ok p.ord p.gen p.recs hx hc⟩
    · exact .inr ⟨.inr h4, hc, p.ok, p.ord, p.gen, p.recs, p.last⟩
    · exact absurd h5 f2
  · rcases hw.out with ⟨h3, hc⟩ | ⟨h4, hc⟩ | ⟨h5, _⟩
    · exact hO _ f2 (.inl h3)
    · exact hO _ f2 (.inr h4)
    · exact absurd h5 f2
theorem start_full {d : Dk} {s : List UInt8} {g : Nat} {l : List (List UInt8)} (c : Clean d s) (ho : Old s g) (hg : 1 ≤ g) (hf : d.fuse < 0) (hN : l.length ≤ 450) :
    (((StartM d g false l).2 = none ∧ ∃ ps', Pres (StartM d g false l).1 (g + 1) l ps') ∨ (((StartM d g false l).2 = some 3 ∨ (StartM d g false l).2 = some 4) ∧ ∃ s', Clean (StartM d g false l).1 s' ∧ Old s' g)) ∧ (StartM d g false l).1.fuse < 0 ∧ StartO g false l (StartM d g false l).2 = false := by
  by_cases h1 : 1099511627776 ≤ g ∨ (l.any fun s => decide (4096 < s.length)) = true
  · have hM : StartM d g false l = (d, some 3) := by unfold StartM; rw [if_neg (by decide), if_pos h1]
    rw [hM]
    exact ⟨.inr ⟨.inl rfl, s, c, ho⟩, hf, by unfold StartO; rw [if_pos (.inr h1)]⟩
  have h2 : (l.any fun s => decide (4096 < s.length)) = false := by
    cases h : (l.any fun s => decide (4096 < s.length)) with
    | false => rfl
    | true => exact absurd (.inr h) h1
  have hM : StartM d g false l = startM d g l := by unfold StartM; rw [if_neg (by decide), if_neg h1]
  have hO : ∀ k, (k = none ∨ k = some 4) → StartO g false l k = false := fun k hk => by
    unfold StartO
    rw [if_neg (by rintro (h | h) <;> first | exact h1 h | cases h)]
    rcases hk with rfl | rfl <;> rfl
  rw [hM]
  rcases zEs c (g := g) (l := l) (by omega) (zEa h2) (by omega) with ⟨_, _, _, _, _, h6⟩ | ⟨d1, ext, c1, r1, f1, x1, ⟨q, hq, rfl⟩, hw⟩
  · omega
  obtain ⟨f2, f3⟩ := hw.fuse (f1 hf)
  refine ⟨?_, f2, ?_⟩
  · rcases hw.out with ⟨h3, hc⟩ | ⟨h4, hc⟩ | ⟨h5, _⟩
    · exact .inl ⟨h3, _, Pres.begun hq x1 hc⟩
    · exact .inr ⟨.inr h4, [], hc, Old.nil g⟩
    · exact absurd h5 f3
  · rcases hw.out with ⟨h3, hc⟩ | ⟨h4, hc⟩ | ⟨h5, _⟩
    · exact hO _ (.inl h3)
    · exact hO _ (.inr h4)
    · exact absurd h5 f3
theorem D2.delIn {h0 h : PH} {a b x : Nat} {da db : Dk} {k : Bk} (hd : D2 h0 h a da b db) (hx : h0.m x = some k) : D2 (h0.del x) (h.del x) a da b db := by
  obtain ⟨A, c, B, e, h1, h2, h3, h4, h5, h6, h7⟩ := hd.cells
  have hn : ∀ y, h0.m y = none → ¬ y = x ∧ (h0.del x).m y = none := fun y q => by
    have r : ¬ y = x := fun r => by rw [r, hx] at q; cases q
    exact ⟨r, by rw [PH.del_m, if_neg r]; exact q⟩
  have hs : ∀ y, ¬ y = x → (h.del x).m y = h.m y := fun y r => by rw [PH.del_m, if_neg r]
  refine ⟨hd.top, fun y j q => ?_, hd.ne, (hn _ hd.lowa).2, (hn _ hd.lowb).2, A, c, B, e, by rw [hs _ (hn _ hd.lowa).1]; exact h1, h2.same fun y q => hs _ (hn _ (h5 y q).1).1, by rw [hs _ (hn _ hd.lowb).1]; exact h3, h4.same fun y q => hs _ (hn _ (h6 y q).1).1, fun y q => ⟨(hn _ (h5 y q).1).2, (h5 y q).2⟩, fun y q => ⟨(hn _ (h6 y q).1).2, (h6 y q).2⟩, h7⟩
  rw [PH.del_m] at q ⊢
  by_cases r : y = x
  · rw [if_pos r] at q; cases q
  · rw [if_neg r] at q ⊢; exact hd.same y j q
theorem D2.stays {h0 h h' : PH} {a b n m sz : Nat} {da db : Dk} {v v' : Value} {xs ys : List Value} (hd : D2 h0 h a da b db) (o : Own h0 sz v n xs) (s : Stays h h' v v') (o' : Own h' sz v' m ys) :
    ∃ h1, D2 h1 h' a da b db ∧ Own h1 sz v' m ys ∧ ∀ x k, h0.m x = some k → v.ownBlock ≠ some x → h1.m x = some k := by
  have fin : ∀ (hb hh : PH), D2 hb hh a da b db → PH.Le hh h' → hh.top = h.top → (∀ x k, h0.m x = some k → v.ownBlock ≠ some x → hb.m x = some k) → (∀ x k, v.ownBlock = some x → h'.m x = some k → hb.m x = some k) →
      ∃ h1, D2 h1 h' a da b db ∧ Own h1 sz v' m ys ∧ ∀ x k, h0.m x = some k → v.ownBlock ≠ some x → h1.m x = some k := fun hb hh hd2 hle ht k1 k2 => by
    obtain ⟨h1, z1, z2, z3, z4, z5⟩ := hd2.grow hle
    refine ⟨h1, z1, o'.at fun x k r1 r2 => ?_, fun x k r1 r2 => z2.m _ _ (k1 x k r1 r2)⟩
    rcases s.fresh x r1 with r3 | r3
    · exact z2.m _ _ (k2 x k r3 r2)
    · exact z5 x k (by omega) r2
  cases hv : v.ownBlock with
  | none =>
    rw [hv] at fin
    exact fin h0 h hd ⟨s.top, fun x k e => s.keep x k e (by rw [hv]; simp)⟩ rfl (fun x k r _ => r) (fun x k r => by cases r)
  | some x =>
    rw [hv] at fin
    have hxl : x < h.top := by have := o.block hv; have := hd.top; omega
    obtain ⟨k0, hk0⟩ : ∃ k, h0.m x = some k := by
      rcases o.2 with ⟨rfl, _⟩ | ⟨b, c, rfl, _, _, hb⟩
      · cases hv
      · injection hv with hv; subst hv; exact ⟨_, hb⟩
    cases hk : h'.m x with
    | none =>
      refine fin _ _ (hd.delIn hk0) ⟨s.top, fun y k e => ?_⟩ rfl (fun y k r1 r2 => ?_) (fun y k r1 r2 => ?_)
      · rw [PH.del_m] at e
        by_cases r : y = x
        · rw [if_pos r] at e; cases e
        · rw [if_neg r] at e; exact s.keep y k e (by rw [hv]; simpa using fun r2 => r r2.symm)
      · rw [PH.del_m, if_neg (fun r => r2 (by rw [r]))]; exact r1
      · injection r1 with r1; subst r1; rw [hk] at r2; cases r2
    | some k =>
      refine fin _ _ (hd.setIn hk0 k) ⟨?_, fun y kk e => ?_⟩ ?_ (fun y kk r1 r2 => ?_) (fun y kk r1 r2 => ?_)
      · simp only [PH.new_top]; have := s.top; omega
      · rw [PH.new_m] at e
        by_cases r : y = x
        · rw [if_pos r] at e; rw [r, hk]; exact e
        · rw [if_neg r] at e; exact s.keep y kk e (by rw [hv]; simpa using fun r2 => r r2.symm)
      · simp only [PH.new_top]; omega
      · rw [PH.new_m, if_neg (fun r => r2 (by rw [r]))]; exact r1
      · injection r1 with r1; subst r1; rw [PH.new_m, if_pos rfl]; rw [hk] at r2; exact r2
theorem JS.stays {h0 h h' : PH} {j a b n m sz g : Nat} {da db : Dk} {q : Bool} {v v' : Value} {xs ys : List Value} (hj : JS h0 h j a b da db g q) (o : Own h0 sz v n xs) (s : Stays h h' v v') (o' : Own h' sz v' m ys) :
    ∃ h1, JS h1 h' j a b da db g q ∧ Own h1 sz v' m ys ∧ ∀ x k, h0.m x = some k → v.ownBlock ≠ some x → h1.m x = some k := by
  have hjl := h.lt _ _ hj.cell
  have hvj : v.ownBlock ≠ some j := fun e => by
    rcases o.2 with ⟨rfl, _⟩ | ⟨b, c, rfl, _, _, hb⟩
    · cases e
    · injection e with e; rw [show b = j from e, hj.low] at hb; cases hb
  obtain ⟨h1, z1, z2, z3⟩ := hj.d2.stays (o.more (JS.low_le h0 hj.low _)) s o'
  have hJ := z3 j _ (by rw [PH.new_m, if_pos rfl]) hvj
  refine ⟨h1.del j, z1.js hJ, z2.at fun x k r1 r2 => ?_, fun x k r1 r2 => ?_⟩
  · rw [PH.del_m, if_neg]
    · exact r2
    · rintro rfl
      rcases s.fresh _ r1 with r | r
      · exact hvj r
      · omega
  · have hxj : x ≠ j := fun r => by rw [r, hj.low] at r1; cases r1
    rw [PH.del_m, if_neg hxj]
    exact z3 x k (by rw [PH.new_m, if_neg hxj]; exact r1) r2
end Go.Proofs.Ytblikpbaeippaaa


namespace Go.Proofs.Ytblikpbaeippaaa
set_option linter.unusedVariables false
set_option linter.unusedSimpArgs false
open Go.RowKit Px Wr
def RI (h : PH) (ib : Nat) (s : List UInt8) : St → Prop
  | .ok t => ∃ at_ : Nat, at_ ≤ s.length ∧ s.drop at_ = t ∧ h.m ib = some ⟨[str s, .int .i64 at_, .int .i64 (-1)], 3⟩
  | .bad p => ∃ at_ : Nat, at_ ≤ s.length ∧ h.m ib = some ⟨[str s, .int .i64 at_, .int .i64 (p : Nat)], 3⟩
theorem RI.chg {h h' : PH} {F : Nat → Prop} {ib : Nat} {s : List UInt8} {st : St} (i : RI h ib s st) (c : Chg F h h') (hF : ¬ F ib) : RI h' ib s st := by
  cases st with
  | ok t => obtain ⟨a, h1, h2, h3⟩ := i; exact ⟨a, h1, h2, c.m _ _ h3 hF⟩
  | bad p => obtain ⟨a, h1, h3⟩ := i; exact ⟨a, h1, c.m _ _ h3 hF⟩
theorem RI.more {h h' : PH} {ib : Nat} {s : List UInt8} {st : St} (i : RI h ib s st) (l : PH.Le h h') : RI h' ib s st := i.chg (F := fun _ => False) (.le l) id
section
variable (w0 : World) (h : PH) (ib : Nat) (s : List UInt8)
end
end Go.Proofs.Ytblikpbaeippaaa


namespace Go.Proofs.Ytblikpbaeippaaa
set_option linter.unusedVariables false
set_option linter.unusedSimpArgs false
open Go.RowKit Px Wr
section
variable (w0 : World) (h : PH) (ib : Nat) (s : List UInt8)
end
set_option maxRecDepth 20000 in
set_option maxHeartbeats 1000000 in
theorem rtrimmed_any (w0 : World) (h : PH) (hl : Low w0 h) (A : Option Addr) (c : Nat) (v : List Int) (m : Int) (hr : Rv w0 h A (ints v)) (hn : v.length ≤ c) (hv : v.length ≤ 9223372036854775807) : PCalls Try.prog w0 68 [.slice A v.length c, .int .i64 m] h fun r h' => r = .bool (trim v m) ∧ h' = h := by
  refine zAp Try.func68 (by kernel_rfl) rfl _ Try.ntmps68 (by kernel_rfl) (by kernel_rfl) _ Try.results68 ?_
  by_cases h16 : v.length ≤ 16
  · have e1 : decide ((v.length : Int) > 16) = false := decide_eq_false (by omega)
    simp -dsimp -implicitDefEqProofs (disch := first | omega | assumption | (simp only [Option.isSome_some,Qt0]; done) | (simp only [List.length_cons,List.length_nil,List.length_append,Int.toNat_natCast] <;> omega) | fail) only [Nat.reduceLT,Nat.reduceLeDiff,Nat.reduceEqDiff,↓reduceIte,Int.reduceLT,Int.reduceLE,Int.reduceToNat,Int.reduceEq,Int.reduceNe,Nat.reduceAdd,Int.reduceAdd,Int.reduceSub,Int.reduceMul,Nat.reduceMul,Qp0,Qp1,Ql0,Qe0,e1]
    refine zBa (fun n f h' => ∃ i : Nat, n + i = v.length ∧ f 0 = some (.slice A v.length c) ∧ f 1 = some (.int .i64 m) ∧ f 5 = some (.int .i64 i) ∧ (∀ j, j < i → 0 ≤ v.getD j 0 ∧ v.getD j 0 ≤ m) ∧ (i = v.length → v.getLast? ≠ some 0) ∧ h' = h) (by kernel_rfl) v.length ⟨0, by omega, ?_, ?_, ?_, fun j hj => by omega, fun e => by have : v = [] := List.eq_nil_of_length_eq_zero e.symm; rw [this]; simp, rfl⟩ ?_
    · simp -dsimp -implicitDefEqProofs (disch := first | omega | assumption | (simp only [Option.isSome_some,Qt0]; done) | (simp only [List.length_cons,List.length_nil,List.length_append,Int.toNat_natCast] <;> omega) | fail) only [Nat.reduceLT,Nat.reduceLeDiff,Nat.reduceEqDiff,↓reduceIte,Int.reduceLT,Int.reduceLE,Int.reduceToNat,Int.reduceEq,Int.reduceNe,Nat.reduceAdd,Int.reduceAdd,Int.reduceSub,Int.reduceMul,Nat.reduceMul,Qp0,Qp1,Ql0,Qe0]
    · simp -dsimp -implicitDefEqProofs (disch := first | omega | assumption | (simp only [Option.isSome_some,Qt0]; done) | (simp only [List.length_cons,List.length_nil,List.length_append,Int.toNat_natCast] <;> omega) | fail) only [Nat.reduceLT,Nat.reduceLeDiff,Nat.reduceEqDiff,↓reduceIte,Int.reduceLT,Int.reduceLE,Int.reduceToNat,Int.reduceEq,Int.reduceNe,Nat.reduceAdd,Int.reduceAdd,Int.reduceSub,Int.reduceMul,Nat.reduceMul,Qp0,Qp1,Ql0,Qe0]
    · simp -dsimp -implicitDefEqProofs (disch := first | omega | assumption | (simp only [Option.isSome_some,Qt0]; done) | (simp only [List.length_cons,List.length_nil,List.length_append,Int.toNat_natCast] <;> omega) | fail) only [Nat.reduceLT,Nat.reduceLeDiff,Nat.reduceEqDiff,↓reduceIte,Int.reduceLT,Int.reduceLE,Int.reduceToNat,Int.reduceEq,Int.reduceNe,Nat.reduceAdd,Int.reduceAdd,Int.reduceSub,Int.reduceMul,Nat.reduceMul,Qp0,Qp1,Ql0,Qe0]
      try rfl
    rintro n f h' ⟨i, hni, f0, f1, f5, hall, hla, rfl⟩
    by_cases hi : i < v.length
    · have e2 : decide ((i : Int) < (v.length : Int)) = true := decide_eq_true (by omega)
      obtain ⟨b, o, rfl⟩ := hr.addr (by simp [ints]; omega)
      have hgi := hr.get hl (j := i) (u := .int .i64 (v.getD i 0)) (by rw [ints, List.getElem?_map, List.getD, List.getElem?_eq_getElem hi]; rfl)
      obtain ⟨b1, hb1⟩ : ∃ b, decide (v.getD i 0 < 0) = b := ⟨_, rfl⟩
      obtain ⟨b2, hb2⟩ : ∃ b, decide (v.getD i 0 > m) = b := ⟨_, rfl⟩
      obtain ⟨b3, hb3⟩ : ∃ b, decide ((i : Int) = (v.length : Int) - 1) = b := ⟨_, rfl⟩
      obtain ⟨b4, hb4⟩ : ∃ b, decide (v.getD i 0 = 0) = b := ⟨_, rfl⟩
      have hgl : i = v.length - 1 → v.getLast? = some (v.getD i 0) := fun e => by
        rw [List.getLast?_eq_getElem?, ← e, List.getD, List.getElem?_eq_getElem hi]; rfl
      have hno : (b1 || b2 || (b3 && b4)) = true → trim v m = false := fun hx => by
        rw [Bool.eq_false_iff]; intro e
        have h9 := trim_iff.1 e
        have h8 := h9.2.2 i hi
        rw [← hb1, ← hb2, ← hb3, ← hb4] at hx
        simp only [Bool.or_eq_true, Bool.and_eq_true, decide_eq_true_eq] at hx
        rcases hx with (hx | hx) | ⟨hx, hy⟩
        · omega
        · omega
        · exact h9.2.1 (by rw [hgl (by omega), hy])
      have hyes : (b1 || b2 || (b3 && b4)) = false → (∀ j, j < i + 1 → 0 ≤ v.getD j 0 ∧ v.getD j 0 ≤ m) ∧ (i + 1 = v.length → v.getLast? ≠ some 0) := fun hx => by
        rw [← hb1, ← hb2, ← hb3, ← hb4] at hx
        simp only [Bool.or_eq_false_iff, Bool.and_eq_false_iff, decide_eq_false_iff_not] at hx
        refine ⟨fun j hj => ?_, fun e => ?_⟩
        · by_cases hji : j = i
          · subst hji; omega
          · exact hall j (by omega)
        · rw [hgl (by omega)]
          intro e2
          injection e2 with e2
          omega
      cases b1; rotate_left
      · rw [hno rfl]
        simp -dsimp -implicitDefEqProofs (disch := first | omega | assumption | (simp only [Option.isSome_some,Qt0]; done) | (simp only [List.length_cons,List.length_nil,List.length_append,Int.toNat_natCast] <;> omega) | fail) only [Nat.reduceLT,Nat.reduceLeDiff,Nat.reduceEqDiff,↓reduceIte,Int.reduceLT,Int.reduceLE,Int.reduceToNat,Int.reduceEq,Int.reduceNe,Nat.reduceAdd,Int.reduceAdd,Int.reduceSub,Int.reduceMul,Nat.reduceMul,Qp0,Qp1,Ql0,Qe0,f0,f1,f5,e2,zAa,hgi,hb1]
        exact ⟨_, PH.Le.refl _, by first | rfl | trivial, rfl⟩
      cases b2; rotate_left
      · rw [hno rfl]
        simp -dsimp -implicitDefEqProofs (disch := first | omega | assumption | (simp only [Option.isSome_some,Qt0]; done) | (simp only [List.length_cons,List.length_nil,List.length_append,Int.toNat_natCast] <;> omega) | fail) only [Nat.reduceLT,Nat.reduceLeDiff,Nat.reduceEqDiff,↓reduceIte,Int.reduceLT,Int.reduceLE,Int.reduceToNat,Int.reduceEq,Int.reduceNe,Nat.reduceAdd,Int.reduceAdd,Int.reduceSub,Int.reduceMul,Nat.reduceMul,Qp0,Qp1,Ql0,Qe0,f0,f1,f5,e2,zAa,hgi,hb1,hb2]
        exact ⟨_, PH.Le.refl _, by first | rfl | trivial, rfl⟩
      cases b3
      · obtain ⟨y1, y2⟩ := hyes rfl
        simp -dsimp -implicitDefEqProofs (disch := first | omega | assumption | (simp only [Option.isSome_some,Qt0]; done) | (simp only [List.length_cons,List.length_nil,List.length_append,Int.toNat_natCast] <;> omega) | fail) only [Nat.reduceLT,Nat.reduceLeDiff,Nat.reduceEqDiff,↓reduceIte,Int.reduceLT,Int.reduceLE,Int.reduceToNat,Int.reduceEq,Int.reduceNe,Nat.reduceAdd,Int.reduceAdd,Int.reduceSub,Int.reduceMul,Nat.reduceMul,Qp0,Qp1,Ql0,Qe0,f0,f1,f5,e2,zAa,hgi,hb1,hb2,hb3]
        exact ⟨n - 1, _, by omega, PH.Le.refl _, i + 1, by omega, by trivial, by trivial, by simp, y1, y2, rfl⟩
      cases b4
      · obtain ⟨y1, y2⟩ := hyes rfl
        simp -dsimp -implicitDefEqProofs (disch := first | omega | assumption | (simp only [Option.isSome_some,Qt0]; done) | (simp only [List.length_cons,List.length_nil,List.length_append,Int.toNat_natCast] <;> omega) | fail) only [Nat.reduceLT,Nat.reduceLeDiff,Nat.reduceEqDiff,↓reduceIte,Int.reduceLT,Int.reduceLE,Int.reduceToNat,Int.reduceEq,Int.reduceNe,Nat.reduceAdd,Int.reduceAdd,Int.reduceSub,Int.reduceMul,Nat.reduceMul,Qp0,Qp1,Ql0,Qe0,f0,f1,f5,e2,zAa,hgi,hb1,hb2,hb3,hb4]
        exact ⟨n - 1, _, by omega, PH.Le.refl _, i + 1, by omega, by trivial, by trivial, by simp, y1, y2, rfl⟩
      · rw [hno rfl]
        simp -dsimp -implicitDefEqProofs (disch := first | omega | assumption | (simp only [Option.isSome_some,Qt0]; done) | (simp only [List.length_cons,List.length_nil,List.length_append,Int.toNat_natCast] <;> omega) | fail) only [Nat.reduceLT,Nat.reduceLeDiff,Nat.reduceEqDiff,↓reduceIte,Int.reduceLT,Int.reduceLE,Int.reduceToNat,Int.reduceEq,Int.reduceNe,Nat.reduceAdd,Int.reduceAdd,Int.reduceSub,Int.reduceMul,Nat.reduceMul,Qp0,Qp1,Ql0,Qe0,f0,f1,f5,e2,zAa,hgi,hb1,hb2,hb3,hb4]
        exact ⟨_, PH.Le.refl _, by first | rfl | trivial, rfl⟩
    · have e2 : decide ((i : Int) < (v.length : Int)) = false := decide_eq_false (by omega)
      rw [trim_iff.2 ⟨h16, hla (by omega), fun j hj => hall j (by omega)⟩]
      simp -dsimp -implicitDefEqProofs (disch := first | omega | assumption | (simp only [Option.isSome_some,Qt0]; done) | (simp only [List.length_cons,List.length_nil,List.length_append,Int.toNat_natCast] <;> omega) | fail) only [Nat.reduceLT,Nat.reduceLeDiff,Nat.reduceEqDiff,↓reduceIte,Int.reduceLT,Int.reduceLE,Int.reduceToNat,Int.reduceEq,Int.reduceNe,Nat.reduceAdd,Int.reduceAdd,Int.reduceSub,Int.reduceMul,Nat.reduceMul,Qp0,Qp1,Ql0,Qe0,f0,f1,f5,e2]
      exact ⟨_, PH.Le.refl _, by first | rfl | trivial, rfl⟩
  · have e1 : decide ((v.length : Int) > 16) = true := decide_eq_true (by omega)
    have ht : trim v m = false := by unfold trim; simp [h16]
    rw [ht]
    simp -dsimp -implicitDefEqProofs (disch := first | omega | assumption | (simp only [Option.isSome_some,Qt0]; done) | (simp only [List.length_cons,List.length_nil,List.length_append,Int.toNat_natCast] <;> omega) | fail) only [Nat.reduceLT,Nat.reduceLeDiff,Nat.reduceEqDiff,↓reduceIte,Int.reduceLT,Int.reduceLE,Int.reduceToNat,Int.reduceEq,Int.reduceNe,Nat.reduceAdd,Int.reduceAdd,Int.reduceSub,Int.reduceMul,Nat.reduceMul,Qp0,Qp1,Ql0,Qe0,e1]
    exact ⟨_, PH.Le.refl _, by trivial, rfl⟩
end Go.Proofs.Ytblikpbaeippaaa


namespace Go.Proofs.Ytblikpbaeippaaa
set_option linter.unusedVariables false
set_option linter.unusedSimpArgs false
open Go.RowKit Px Wr
def textB (y : List UInt8) : List UInt8 := numB y.length ++ y
end Go.Proofs.Ytblikpbaeippaaa


namespace Go.Proofs.Ytblikpbaeippaaa
set_option linter.unusedVariables false
set_option linter.unusedSimpArgs false
open Go.RowKit Px Wr
structure It where
  K : Int
  N : Int
  S : List UInt8
  B : Bool
  V : List Int
def itL (x : It) (A : Option Addr) (cap : Nat) : List Value := [.int .i64 x.K, .int .i64 x.N, str x.S, .bool x.B, .slice A x.V.length cap]
def bytesI (x : It) : Option (List UInt8) := if x.K = 1 then some (textB x.S) else if x.K = 2 then some (flagB x.B) else if x.K = 3 then (if trim x.V 4611686018427387903 = true then some (vecB x.V) else none) else if x.N < 0 ∨ 4611686018427387903 < x.N then none else some (numB x.N.toNat)
def stepI (s : WS) (x : It) : WS := if s.2.isSome = true then s else match bytesI x with
  | none => (s.1, some (1, s.1.length))
  | some b => putM s b
def itemM (s : WS) (x : It) : WS := if x.K = 1 then textM s x.S else if x.K = 2 then flagM s x.B else if x.K = 3 then vecM s x.V else numM s x.N
theorem itemM_eq (s : WS) (x : It) : itemM s x = stepI s x := by
  unfold itemM stepI
  cases hs : s.2.isSome with
  | true =>
    unfold textM flagM vecM numM
    simp only [putM_bad hs, hs, if_true, ite_self]
  | false =>
    simp only [Bool.false_eq_true, if_false]
    unfold bytesI
    by_cases h1 : x.K = 1
    · rw [if_pos h1, if_pos h1]; rfl
    rw [if_neg h1, if_neg h1]
    by_cases h2 : x.K = 2
    · rw [if_pos h2, if_pos h2]
      unfold flagM numM flagB
      rw [hs, if_neg (by simp), if_neg (by split <;> omega)]
      cases x.B <;> rfl
    rw [if_neg h2, if_neg h2]
    by_cases h3 : x.K = 3
    · rw [if_pos h3, if_pos h3]
      unfold vecM
      rw [hs, if_neg (by simp)]
      by_cases h4 : trim x.V 4611686018427387903 = true
      · rw [if_pos h4, if_pos h4]
      · rw [if_neg h4, if_neg h4]
    rw [if_neg h3, if_neg h3]
    unfold numM
    rw [hs, if_neg (by simp)]
    by_cases h5 : x.N < 0 ∨ 4611686018427387903 < x.N
    · rw [if_pos h5, if_pos h5]
    · rw [if_neg h5, if_neg h5]
def writtenM (L : List It) : WS := L.foldl stepI ([], none)
theorem foldl_bad : ∀ (L : List It) (s : WS), s.2.isSome = true → L.foldl stepI s = s
  | [], s, h => rfl
  | x :: L, s, h => by
    have : stepI s x = s := by unfold stepI; rw [if_pos h]
    rw [List.foldl_cons, this, foldl_bad L s h]
theorem writtenM_next {L : List It} {i : Nat} {x : It} (h : L[i]? = some x) : (L.take (i + 1)).foldl stepI ([], none) = stepI ((L.take i).foldl stepI ([], none)) x := by
  rw [List.take_add_one, h]
  simp
theorem zGw {L : List It} {i : Nat} {s : WS} (h : (L.take i).foldl stepI ([], none) = s) (hs : s.2.isSome = true) : writtenM L = s := by
  unfold writtenM
  conv => lhs; rw [← List.take_append_drop i L, List.foldl_append, h]
  exact foldl_bad _ _ hs
theorem byte_add (m : Nat) : UInt8.ofInt ((m : Int) % 128 + 128) = UInt8.ofNat (m % 128 + 128) := by
  have : (m : Int) % 128 + 128 = ((m % 128 + 128 : Nat) : Int) := by omega
  rw [this]
  generalize m % 128 + 128 = k
  apply UInt8.toNat_inj.1
  simp [UInt8.ofInt]; omega
set_option maxRecDepth 20000 in
set_option maxHeartbeats 1000000 in
theorem zDd (n : Nat) (hn : n ≤ 9223372036854775807) (w0 : World) (h : PH) : PCalls Try.prog w0 67 [.int .i64 n] h fun r h' => r = str (numB n) ∧ h' = h := by
  refine zAp Try.func67 (by kernel_rfl) rfl _ Try.ntmps67 (by kernel_rfl) (by kernel_rfl) _ Try.results67 ?_
  simp -dsimp -implicitDefEqProofs (disch := first | omega | assumption | (simp only [Option.isSome_some,Qt0]; done) | (simp only [List.length_cons,List.length_nil,List.length_append,Int.toNat_natCast] <;> omega) | fail) only [Nat.reduceLT,Nat.reduceLeDiff,Nat.reduceEqDiff,↓reduceIte,Int.reduceLT,Int.reduceLE,Int.reduceToNat,Int.reduceEq,Int.reduceNe,Nat.reduceAdd,Int.reduceAdd,Int.reduceSub,Int.reduceMul,Nat.reduceMul,Qp0,Qp1,Ql0,Qe0]
  refine zBa (fun m f h' => ∃ l' : List UInt8, f 0 = some (.int .i64 m) ∧ f 3 = some (str l') ∧ m ≤ n ∧ l' ++ numB m = numB n ∧ PH.Le h h') (by kernel_rfl) n ⟨[], ?_, ?_, Nat.le_refl _, by simp, PH.Le.refl _⟩ ?_
  · simp -dsimp -implicitDefEqProofs (disch := first | omega | assumption | (simp only [Option.isSome_some,Qt0]; done) | (simp only [List.length_cons,List.length_nil,List.length_append,Int.toNat_natCast] <;> omega) | fail) only [Nat.reduceLT,Nat.reduceLeDiff,Nat.reduceEqDiff,↓reduceIte,Int.reduceLT,Int.reduceLE,Int.reduceToNat,Int.reduceEq,Int.reduceNe,Nat.reduceAdd,Int.reduceAdd,Int.reduceSub,Int.reduceMul,Nat.reduceMul,Qp0,Qp1,Ql0,Qe0]
  · simp -dsimp -implicitDefEqProofs (disch := first | omega | assumption | (simp only [Option.isSome_some,Qt0]; done) | (simp only [List.length_cons,List.length_nil,List.length_append,Int.toNat_natCast] <;> omega) | fail) only [Nat.reduceLT,Nat.reduceLeDiff,Nat.reduceEqDiff,↓reduceIte,Int.reduceLT,Int.reduceLE,Int.reduceToNat,Int.reduceEq,Int.reduceNe,Nat.reduceAdd,Int.reduceAdd,Int.reduceSub,Int.reduceMul,Nat.reduceMul,Qp0,Qp1,Ql0,Qe0]
    try rfl
  rintro m f h' ⟨l', f0, f3, hm, hlm, hle⟩
  have hll := congrArg List.length hlm
  simp only [List.length_append] at hll
  have hp := numB_pos m
  have hnl := zA8 hn
  by_cases hs : m < 128
  · have e1 : decide ((m : Int) ≥ 128) = false := decide_eq_false (by omega)
    rw [← hlm, zBx hs]
    have hb := zF7 hs
    simp -dsimp -implicitDefEqProofs (disch := first | omega | assumption | (simp only [Option.isSome_some,Qt0]; done) | (simp only [List.length_cons,List.length_nil,List.length_append,Int.toNat_natCast] <;> omega) | fail) only [Nat.reduceLT,Nat.reduceLeDiff,Nat.reduceEqDiff,↓reduceIte,Int.reduceLT,Int.reduceLE,Int.reduceToNat,Int.reduceEq,Int.reduceNe,Nat.reduceAdd,Int.reduceAdd,Int.reduceSub,Int.reduceMul,Nat.reduceMul,Qp0,Qp1,Ql0,Qe0,f0,f3,e1]
    refine zBj (v := u8 (UInt8.ofInt m)) zA2 rfl (by omega) fun gb hgb => ?_
    simp -dsimp -implicitDefEqProofs (disch := first | omega | assumption | (simp only [Option.isSome_some,Qt0]; done) | (simp only [List.length_cons,List.length_nil,List.length_append,Int.toNat_natCast] <;> omega) | fail) only [Nat.reduceLT,Nat.reduceLeDiff,Nat.reduceEqDiff,↓reduceIte,Int.reduceLT,Int.reduceLE,Int.reduceToNat,Int.reduceEq,Int.reduceNe,Nat.reduceAdd,Int.reduceAdd,Int.reduceSub,Int.reduceMul,Nat.reduceMul,Qp0,Qp1,Ql0,Qe0,f0,f3]
    refine zBo (l := [UInt8.ofNat m]) Try.underlying77 Try.underlying5 Try.underlying9 (Rs.blk (k := ⟨[u8 (UInt8.ofNat m)], 1⟩) (by rw [PH.new_m, if_pos rfl, hb]; rfl) rfl) (by simp) ?_
    simp -dsimp -implicitDefEqProofs (disch := first | omega | assumption | (simp only [Option.isSome_some,Qt0]; done) | (simp only [List.length_cons,List.length_nil,List.length_append,Int.toNat_natCast] <;> omega) | fail) only [Nat.reduceLT,Nat.reduceLeDiff,Nat.reduceEqDiff,↓reduceIte,Int.reduceLT,Int.reduceLE,Int.reduceToNat,Int.reduceEq,Int.reduceNe,Nat.reduceAdd,Int.reduceAdd,Int.reduceSub,Int.reduceMul,Nat.reduceMul,Qp0,Qp1,Ql0,Qe0,f0,f3]
    exact ⟨_, hle.new _ _ (Nat.le_trans hle.top hgb), by first | rfl | trivial, rfl⟩
  · have e1 : decide ((m : Int) ≥ 128) = true := decide_eq_true (by omega)
    rw [zCa hs] at hlm
    simp -dsimp -implicitDefEqProofs (disch := first | omega | assumption | (simp only [Option.isSome_some,Qt0]; done) | (simp only [List.length_cons,List.length_nil,List.length_append,Int.toNat_natCast] <;> omega) | fail) only [Nat.reduceLT,Nat.reduceLeDiff,Nat.reduceEqDiff,↓reduceIte,Int.reduceLT,Int.reduceLE,Int.reduceToNat,Int.reduceEq,Int.reduceNe,Nat.reduceAdd,Int.reduceAdd,Int.reduceSub,Int.reduceMul,Nat.reduceMul,Qp0,Qp1,Ql0,Qe0,f0,f3,e1,byte_add]
    refine zBj (v := u8 (UInt8.ofNat (m % 128 + 128))) zA2 rfl (by omega) fun gb hgb => ?_
    simp -dsimp -implicitDefEqProofs (disch := first | omega | assumption | (simp only [Option.isSome_some,Qt0]; done) | (simp only [List.length_cons,List.length_nil,List.length_append,Int.toNat_natCast] <;> omega) | fail) only [Nat.reduceLT,Nat.reduceLeDiff,Nat.reduceEqDiff,↓reduceIte,Int.reduceLT,Int.reduceLE,Int.reduceToNat,Int.reduceEq,Int.reduceNe,Nat.reduceAdd,Int.reduceAdd,Int.reduceSub,Int.reduceMul,Nat.reduceMul,Qp0,Qp1,Ql0,Qe0,f0,f3]
    refine zBo (l := [UInt8.ofNat (m % 128 + 128)]) Try.underlying77 Try.underlying5 Try.underlying9 (Rs.blk (k := ⟨[u8 (UInt8.ofNat (m % 128 + 128))], 1⟩) (by rw [PH.new_m, if_pos rfl]; rfl) rfl) (by simp) ?_
    have hd : ((m : Int) / 128) = ((m / 128 : Nat) : Int) := by omega
    simp -dsimp -implicitDefEqProofs (disch := first | omega | assumption | (simp only [Option.isSome_some,Qt0]; done) | (simp only [List.length_cons,List.length_nil,List.length_append,Int.toNat_natCast] <;> omega) | fail) only [Nat.reduceLT,Nat.reduceLeDiff,Nat.reduceEqDiff,↓reduceIte,Int.reduceLT,Int.reduceLE,Int.reduceToNat,Int.reduceEq,Int.reduceNe,Nat.reduceAdd,Int.reduceAdd,Int.reduceSub,Int.reduceMul,Nat.reduceMul,Qp0,Qp1,Ql0,Qe0,f0,f3,hd]
    exact ⟨m / 128, _, by omega, PH.Le.refl _, _, by trivial, by trivial, by omega, by rw [← hlm]; simp, hle.new _ _ (Nat.le_trans hle.top hgb)⟩
end Go.Proofs.Ytblikpbaeippaaa


namespace Go.Proofs.Ytblikpbaeippaaa
set_option linter.unusedVariables false
set_option linter.unusedSimpArgs false
open Go.RowKit Px Wr
set_option maxRecDepth 20000 in
set_option maxHeartbeats 2000000 in
theorem rbytes_any (x : It) (A : Option Addr) (cap : Nat) (hN : x.N ≤ 9223372036854775807) (hS : x.S.length ≤ 1000000) (hV : x.V.length ≤ 1000000) (hc : x.V.length ≤ cap) (w0 : World) (h : PH) (hr : Rv w0 h A (ints x.V)) : PCalls Try.prog w0 55 [.agg (itL x A cap).toArray] h fun r h' => r = .tuple #[str ((bytesI x).getD []), .bool (bytesI x).isSome] ∧ h' = h := by
  refine zAp Try.func55 (by kernel_rfl) rfl _ Try.ntmps55 (by kernel_rfl) (by kernel_rfl) _ Try.results55 ?_
  unfold itL
  simp -dsimp -implicitDefEqProofs (disch := first | omega | assumption | (simp only [Option.isSome_some,Qt0]; done) | (simp only [List.length_cons,List.length_nil,List.length_append,Int.toNat_natCast] <;> omega) | fail) only [Nat.reduceLT,Nat.reduceLeDiff,Nat.reduceEqDiff,↓reduceIte,Int.reduceLT,Int.reduceLE,Int.reduceToNat,Int.reduceEq,Int.reduceNe,Nat.reduceAdd,Int.reduceAdd,Int.reduceSub,Int.reduceMul,Nat.reduceMul,Qp0,Qp1,Ql0,Qe0]
  refine fun pb hpb => ?_
  have hle := (PH.Le.refl h).new pb ⟨[.int .i64 x.K, .int .i64 x.N, str x.S, .bool x.B, .slice A x.V.length cap], 5⟩ hpb
  have hp : (h.new pb ⟨[.int .i64 x.K, .int .i64 x.N, str x.S, .bool x.B, .slice A x.V.length cap], 5⟩).m pb = some ⟨[.int .i64 x.K, .int .i64 x.N, str x.S, .bool x.B, .slice A x.V.length cap], 5⟩ := by rw [PH.new_m, if_pos rfl]
  have hr1 := hr.more hle
  simp -dsimp -implicitDefEqProofs (disch := first | omega | assumption | (simp only [Option.isSome_some,Qt0]; done) | (simp only [List.length_cons,List.length_nil,List.length_append,Int.toNat_natCast] <;> omega) | fail) only [Nat.reduceLT,Nat.reduceLeDiff,Nat.reduceEqDiff,↓reduceIte,Int.reduceLT,Int.reduceLE,Int.reduceToNat,Int.reduceEq,Int.reduceNe,Nat.reduceAdd,Int.reduceAdd,Int.reduceSub,Int.reduceMul,Nat.reduceMul,Qp0,Qp1,Ql0,Qe0]
  generalize h.new pb ⟨[.int .i64 x.K, .int .i64 x.N, str x.S, .bool x.B, .slice A x.V.length cap], 5⟩ = h1 at *
  by_cases k1 : x.K = 1
  · have e1 := decide_eq_true k1
    have hB : bytesI x = some (textB x.S) := by unfold bytesI; rw [if_pos k1]
    have hM := Lib.hid (zDd x.S.length (by omega) w0 h1)
    have hl := zA8 (n := x.S.length) (by omega)
    rw [hB]
    simp -dsimp -implicitDefEqProofs (disch := first | omega | assumption | (simp only [Option.isSome_some,Qt0]; done) | (simp only [List.length_cons,List.length_nil,List.length_append,Int.toNat_natCast] <;> omega) | fail) only [Nat.reduceLT,Nat.reduceLeDiff,Nat.reduceEqDiff,↓reduceIte,Int.reduceLT,Int.reduceLE,Int.reduceToNat,Int.reduceEq,Int.reduceNe,Nat.reduceAdd,Int.reduceAdd,Int.reduceSub,Int.reduceMul,Nat.reduceMul,Qp0,Qp1,Ql0,Qe0,zAa,zAb,hp,e1]
    refine zBq [0, 1, 2, 4, 5, 3, 6, 7, 8] h1 (by kernel_rfl) (by decide +kernel) (by kernel_rfl) (by kernel_rfl) (by kernel_rfl) (fun c f h hq => by simp only [zA0, zAy, zAv, zAw, zAx] at hq) (PH.Le.refl _).sub ?_
    simp -dsimp -implicitDefEqProofs (disch := first | omega | assumption | (simp only [Option.isSome_some,Qt0]; done) | (simp only [List.length_cons,List.length_nil,List.length_append,Int.toNat_natCast] <;> omega) | fail) only [Nat.reduceLT,Nat.reduceLeDiff,Nat.reduceEqDiff,↓reduceIte,Int.reduceLT,Int.reduceLE,Int.reduceToNat,Int.reduceEq,Int.reduceNe,Nat.reduceAdd,Int.reduceAdd,Int.reduceSub,Int.reduceMul,Nat.reduceMul,Qp0,Qp1,Ql0,Qe0,zAa,zAb,hp]
    refine hM.out.mono ?_
    rintro v hq ⟨rfl, hz⟩
    obtain rfl := hz.symm
    refine ⟨(PH.Le.refl _).sub, ?_⟩
    simp -dsimp -implicitDefEqProofs (disch := first | omega | assumption | (simp only [Option.isSome_some,Qt0]; done) | (simp only [List.length_cons,List.length_nil,List.length_append,Int.toNat_natCast] <;> omega) | fail) only [Nat.reduceLT,Nat.reduceLeDiff,Nat.reduceEqDiff,↓reduceIte,Int.reduceLT,Int.reduceLE,Int.reduceToNat,Int.reduceEq,Int.reduceNe,Nat.reduceAdd,Int.reduceAdd,Int.reduceSub,Int.reduceMul,Nat.reduceMul,Qp0,Qp1,Ql0,Qe0,zAa,zAb,hp]
    exact ⟨_, hle, by first | rfl | trivial, rfl⟩
  have e1 := decide_eq_false k1
  by_cases k2 : x.K = 2
  · have e2 := decide_eq_true k2
    have hB : bytesI x = some (flagB x.B) := by unfold bytesI; rw [if_neg k1, if_pos k2]
    rw [hB]
    have hM1 := Lib.hid (zDd 1 (by omega) w0 h1)
    have hM0 := Lib.hid (zDd 0 (by omega) w0 h1)
    cases hb : x.B with
    | true =>
      rw [hb] at hp
      simp -dsimp -implicitDefEqProofs (disch := first | omega | assumption | (simp only [Option.isSome_some,Qt0]; done) | (simp only [List.length_cons,List.length_nil,List.length_append,Int.toNat_natCast] <;> omega) | fail) only [Nat.reduceLT,Nat.reduceLeDiff,Nat.reduceEqDiff,↓reduceIte,Int.reduceLT,Int.reduceLE,Int.reduceToNat,Int.reduceEq,Int.reduceNe,Nat.reduceAdd,Int.reduceAdd,Int.reduceSub,Int.reduceMul,Nat.reduceMul,Qp0,Qp1,Ql0,Qe0,zAa,zAb,hp,e1,e2]
      refine hM1.out.mono ?_
      rintro v hq ⟨rfl, hz⟩
      obtain rfl := hz.symm
      simp -dsimp -implicitDefEqProofs (disch := first | omega | assumption | (simp only [Option.isSome_some,Qt0]; done) | (simp only [List.length_cons,List.length_nil,List.length_append,Int.toNat_natCast] <;> omega) | fail) only [Nat.reduceLT,Nat.reduceLeDiff,Nat.reduceEqDiff,↓reduceIte,Int.reduceLT,Int.reduceLE,Int.reduceToNat,Int.reduceEq,Int.reduceNe,Nat.reduceAdd,Int.reduceAdd,Int.reduceSub,Int.reduceMul,Nat.reduceMul,Qp0,Qp1,Ql0,Qe0]
      exact ⟨_, hle, by first | rfl | trivial, rfl⟩
    | false =>
      rw [hb] at hp
      simp -dsimp -implicitDefEqProofs (disch := first | omega | assumption | (simp only [Option.isSome_some,Qt0]; done) | (simp only [List.length_cons,List.length_nil,List.length_append,Int.toNat_natCast] <;> omega) | fail) only [Nat.reduceLT,Nat.reduceLeDiff,Nat.reduceEqDiff,↓reduceIte,Int.reduceLT,Int.reduceLE,Int.reduceToNat,Int.reduceEq,Int.reduceNe,Nat.reduceAdd,Int.reduceAdd,Int.reduceSub,Int.reduceMul,Nat.reduceMul,Qp0,Qp1,Ql0,Qe0,zAa,zAb,hp,e1,e2]
      refine hM0.out.mono ?_
      rintro v hq ⟨rfl, hz⟩
      obtain rfl := hz.symm
      simp -dsimp -implicitDefEqProofs (disch := first | omega | assumption | (simp only [Option.isSome_some,Qt0]; done) | (simp only [List.length_cons,List.length_nil,List.length_append,Int.toNat_natCast] <;> omega) | fail) only [Nat.reduceLT,Nat.reduceLeDiff,Nat.reduceEqDiff,↓reduceIte,Int.reduceLT,Int.reduceLE,Int.reduceToNat,Int.reduceEq,Int.reduceNe,Nat.reduceAdd,Int.reduceAdd,Int.reduceSub,Int.reduceMul,Nat.reduceMul,Qp0,Qp1,Ql0,Qe0]
      exact ⟨_, hle, by first | rfl | trivial, rfl⟩
  have e2 := decide_eq_false k2
  by_cases k3 : x.K = 3
  · have e3 := decide_eq_true k3
    have hT := PCalls_low fun hl => rtrimmed_any w0 h1 hl A cap x.V 4611686018427387903 hr1 hc (by omega)
    cases ht : trim x.V 4611686018427387903 with
    | false =>
      have hB : bytesI x = none := by unfold bytesI; rw [if_neg k1, if_neg k2, if_pos k3, ht, if_neg (by simp)]
      rw [hB]
      rw [ht] at hT
      have hT := Lib.hid hT
      simp -dsimp -implicitDefEqProofs (disch := first | omega | assumption | (simp only [Option.isSome_some,Qt0]; done) | (simp only [List.length_cons,List.length_nil,List.length_append,Int.toNat_natCast] <;> omega) | fail) only [Nat.reduceLT,Nat.reduceLeDiff,Nat.reduceEqDiff,↓reduceIte,Int.reduceLT,Int.reduceLE,Int.reduceToNat,Int.reduceEq,Int.reduceNe,Nat.reduceAdd,Int.reduceAdd,Int.reduceSub,Int.reduceMul,Nat.reduceMul,Qp0,Qp1,Ql0,Qe0,zAa,zAb,hp,e1,e2,e3]
      refine hT.out.mono ?_
      rintro v hq ⟨rfl, hz⟩
      obtain rfl := hz.symm
      simp -dsimp -implicitDefEqProofs (disch := first | omega | assumption | (simp only [Option.isSome_some,Qt0]; done) | (simp only [List.length_cons,List.length_nil,List.length_append,Int.toNat_natCast] <;> omega) | fail) only [Nat.reduceLT,Nat.reduceLeDiff,Nat.reduceEqDiff,↓reduceIte,Int.reduceLT,Int.reduceLE,Int.reduceToNat,Int.reduceEq,Int.reduceNe,Nat.reduceAdd,Int.reduceAdd,Int.reduceSub,Int.reduceMul,Nat.reduceMul,Qp0,Qp1,Ql0,Qe0]
      exact ⟨_, hle, by first | rfl | trivial, rfl⟩
    | true =>
      have hB : bytesI x = some (vecB x.V) := by unfold bytesI; rw [if_neg k1, if_neg k2, if_pos k3, ht, if_pos rfl]
      rw [hB]
      rw [ht] at hT
      have hT := Lib.hid hT
      have h16 := trim_len ht
      have hall := trim_iff.1 ht
      have hM := Lib.hid (zDd x.V.length (by omega) w0 h1)
      simp -dsimp -implicitDefEqProofs (disch := first | omega | assumption | (simp only [Option.isSome_some,Qt0]; done) | (simp only [List.length_cons,List.length_nil,List.length_append,Int.toNat_natCast] <;> omega) | fail) only [Nat.reduceLT,Nat.reduceLeDiff,Nat.reduceEqDiff,↓reduceIte,Int.reduceLT,Int.reduceLE,Int.reduceToNat,Int.reduceEq,Int.reduceNe,Nat.reduceAdd,Int.reduceAdd,Int.reduceSub,Int.reduceMul,Nat.reduceMul,Qp0,Qp1,Ql0,Qe0,zAa,zAb,hp,e1,e2,e3]
      refine hT.out.mono ?_
      rintro v hq ⟨rfl, hz⟩
      obtain rfl := hz.symm
      simp -dsimp -implicitDefEqProofs (disch := first | omega | assumption | (simp only [Option.isSome_some,Qt0]; done) | (simp only [List.length_cons,List.length_nil,List.length_append,Int.toNat_natCast] <;> omega) | fail) only [Nat.reduceLT,Nat.reduceLeDiff,Nat.reduceEqDiff,↓reduceIte,Int.reduceLT,Int.reduceLE,Int.reduceToNat,Int.reduceEq,Int.reduceNe,Nat.reduceAdd,Int.reduceAdd,Int.reduceSub,Int.reduceMul,Nat.reduceMul,Qp0,Qp1,Ql0,Qe0,zAa,zAb,hp]
      refine hM.out.mono ?_
      rintro v hq ⟨rfl, hz⟩
      obtain rfl := hz.symm
      simp -dsimp -implicitDefEqProofs (disch := first | omega | assumption | (simp only [Option.isSome_some,Qt0]; done) | (simp only [List.length_cons,List.length_nil,List.length_append,Int.toNat_natCast] <;> omega) | fail) only [Nat.reduceLT,Nat.reduceLeDiff,Nat.reduceEqDiff,↓reduceIte,Int.reduceLT,Int.reduceLE,Int.reduceToNat,Int.reduceEq,Int.reduceNe,Nat.reduceAdd,Int.reduceAdd,Int.reduceSub,Int.reduceMul,Nat.reduceMul,Qp0,Qp1,Ql0,Qe0,zAa,zAb,hp]
      refine zB5 (fun n f h' => ∃ i : Nat, n + i = x.V.length ∧ f 1 = some (.pointer (some ⟨pb, 0, none⟩)) ∧ f 4 = some (str (numB x.V.length ++ (x.V.take i).flatMap fun n => numB n.toNat)) ∧ f 5 = some (.int .i64 i) ∧ h' = h1) (by kernel_rfl) x.V.length ⟨0, by omega, ?_, ?_, ?_, rfl⟩ ?_
      · simp -dsimp -implicitDefEqProofs (disch := first | omega | assumption | (simp only [Option.isSome_some,Qt0]; done) | (simp only [List.length_cons,List.length_nil,List.length_append,Int.toNat_natCast] <;> omega) | fail) only [Nat.reduceLT,Nat.reduceLeDiff,Nat.reduceEqDiff,↓reduceIte,Int.reduceLT,Int.reduceLE,Int.reduceToNat,Int.reduceEq,Int.reduceNe,Nat.reduceAdd,Int.reduceAdd,Int.reduceSub,Int.reduceMul,Nat.reduceMul,Qp0,Qp1,Ql0,Qe0]
      · simp -dsimp -implicitDefEqProofs (disch := first | omega | assumption | (simp only [Option.isSome_some,Qt0]; done) | (simp only [List.length_cons,List.length_nil,List.length_append,Int.toNat_natCast] <;> omega) | fail) only [Nat.reduceLT,Nat.reduceLeDiff,Nat.reduceEqDiff,↓reduceIte,Int.reduceLT,Int.reduceLE,Int.reduceToNat,Int.reduceEq,Int.reduceNe,Nat.reduceAdd,Int.reduceAdd,Int.reduceSub,Int.reduceMul,Nat.reduceMul,Qp0,Qp1,Ql0,Qe0]
        simp
      · simp -dsimp -implicitDefEqProofs (disch := first | omega | assumption | (simp only [Option.isSome_some,Qt0]; done) | (simp only [List.length_cons,List.length_nil,List.length_append,Int.toNat_natCast] <;> omega) | fail) only [Nat.reduceLT,Nat.reduceLeDiff,Nat.reduceEqDiff,↓reduceIte,Int.reduceLT,Int.reduceLE,Int.reduceToNat,Int.reduceEq,Int.reduceNe,Nat.reduceAdd,Int.reduceAdd,Int.reduceSub,Int.reduceMul,Nat.reduceMul,Qp0,Qp1,Ql0,Qe0]
        try rfl
      rintro n f h' ⟨i, hni, f1, f4, f5, rfl⟩ hl'
      have hlen : (numB x.V.length ++ (x.V.take i).flatMap fun n => numB n.toNat).length ≤ 1000 := by
        have h5 := zA8 (n := x.V.length) (by omega)
        have h6 := flat_len_le (x.V.take i) (fun n hn => by have := trim_all ht n (List.mem_of_mem_take hn); omega)
        simp only [List.length_append]
        simp only [List.length_take] at h6
        omega
      by_cases hi : i < x.V.length
      · have e4 : decide ((i : Int) < (x.V.length : Int)) = true := decide_eq_true (by omega)
        have hb := hall.2.2 i hi
        have hN := zDd (x.V.getD i 0).toNat (by omega) w0 h'
        have hnl := zA8 (n := (x.V.getD i 0).toNat) (by omega)
        rw [show (((x.V.getD i 0).toNat : Nat) : Int) = x.V.getD i 0 by omega] at hN
        have hN := Lib.hid hN
        obtain ⟨b, o, rfl⟩ := hr.addr (by simp [ints]; omega)
        have hg := hr1.get hl' (j := i) (u := .int .i64 (x.V.getD i 0)) (by rw [ints, List.getElem?_map, List.getD, List.getElem?_eq_getElem hi]; rfl)
        have hnx : (numB x.V.length ++ (x.V.take i).flatMap fun n => numB n.toNat) ++ numB (x.V.getD i 0).toNat = numB x.V.length ++ (x.V.take (i + 1)).flatMap fun n => numB n.toNat := by rw [vecB_take _ _ hi, List.append_assoc]
        generalize (numB x.V.length ++ (x.V.take i).flatMap fun n => numB n.toNat) = C at *
        simp -dsimp -implicitDefEqProofs (disch := first | omega | assumption | (simp only [Option.isSome_some,Qt0]; done) | (simp only [List.length_cons,List.length_nil,List.length_append,Int.toNat_natCast] <;> omega) | fail) only [Nat.reduceLT,Nat.reduceLeDiff,Nat.reduceEqDiff,↓reduceIte,Int.reduceLT,Int.reduceLE,Int.reduceToNat,Int.reduceEq,Int.reduceNe,Nat.reduceAdd,Int.reduceAdd,Int.reduceSub,Int.reduceMul,Nat.reduceMul,Qp0,Qp1,Ql0,Qe0,f1,f4,f5,zAa,zAb,hp,e4,hg]
        refine hN.out.mono ?_
        rintro v hq ⟨rfl, hz⟩
        obtain rfl := hz.symm
        simp -dsimp -implicitDefEqProofs (disch := first | omega | assumption | (simp only [Option.isSome_some,Qt0]; done) | (simp only [List.length_cons,List.length_nil,List.length_append,Int.toNat_natCast] <;> omega) | fail) only [Nat.reduceLT,Nat.reduceLeDiff,Nat.reduceEqDiff,↓reduceIte,Int.reduceLT,Int.reduceLE,Int.reduceToNat,Int.reduceEq,Int.reduceNe,Nat.reduceAdd,Int.reduceAdd,Int.reduceSub,Int.reduceMul,Nat.reduceMul,Qp0,Qp1,Ql0,Qe0,f1,f4,f5,zAa,zAb,hp]
        exact ⟨n - 1, _, by omega, PH.Le.refl _, i + 1, by omega, by trivial, by rw [← hnx], by simp, rfl⟩
      · obtain rfl : i = x.V.length := by omega
        have e4 : decide ((x.V.length : Int) < (x.V.length : Int)) = false := decide_eq_false (by omega)
        rw [List.take_length] at f4
        simp -dsimp -implicitDefEqProofs (disch := first | omega | assumption | (simp only [Option.isSome_some,Qt0]; done) | (simp only [List.length_cons,List.length_nil,List.length_append,Int.toNat_natCast] <;> omega) | fail) only [Nat.reduceLT,Nat.reduceLeDiff,Nat.reduceEqDiff,↓reduceIte,Int.reduceLT,Int.reduceLE,Int.reduceToNat,Int.reduceEq,Int.reduceNe,Nat.reduceAdd,Int.reduceAdd,Int.reduceSub,Int.reduceMul,Nat.reduceMul,Qp0,Qp1,Ql0,Qe0,f1,f4,f5,zAa,zAb,hp,e4]
        exact ⟨_, hle, by first | rfl | trivial, rfl⟩
  have e3 := decide_eq_false k3
  by_cases hneg : x.N < 0
  · have e4 := decide_eq_true hneg
    have hB : bytesI x = none := by unfold bytesI; rw [if_neg k1, if_neg k2, if_neg k3, if_pos (.inl hneg)]
    rw [hB]
    simp -dsimp -implicitDefEqProofs (disch := first | omega | assumption | (simp only [Option.isSome_some,Qt0]; done) | (simp only [List.length_cons,List.length_nil,List.length_append,Int.toNat_natCast] <;> omega) | fail) only [Nat.reduceLT,Nat.reduceLeDiff,Nat.reduceEqDiff,↓reduceIte,Int.reduceLT,Int.reduceLE,Int.reduceToNat,Int.reduceEq,Int.reduceNe,Nat.reduceAdd,Int.reduceAdd,Int.reduceSub,Int.reduceMul,Nat.reduceMul,Qp0,Qp1,Ql0,Qe0,zAa,zAb,hp,e1,e2,e3,e4]
    exact ⟨_, hle, by first | rfl | trivial, rfl⟩
  have e4 := decide_eq_false hneg
  by_cases hbig : x.N > 4611686018427387903
  · have e5 := decide_eq_true hbig
    have hB : bytesI x = none := by unfold bytesI; rw [if_neg k1, if_neg k2, if_neg k3, if_pos (.inr hbig)]
    rw [hB]
    simp -dsimp -implicitDefEqProofs (disch := first | omega | assumption | (simp only [Option.isSome_some,Qt0]; done) | (simp only [List.length_cons,List.length_nil,List.length_append,Int.toNat_natCast] <;> omega) | fail) only [Nat.reduceLT,Nat.reduceLeDiff,Nat.reduceEqDiff,↓reduceIte,Int.reduceLT,Int.reduceLE,Int.reduceToNat,Int.reduceEq,Int.reduceNe,Nat.reduceAdd,Int.reduceAdd,Int.reduceSub,Int.reduceMul,Nat.reduceMul,Qp0,Qp1,Ql0,Qe0,zAa,zAb,hp,e1,e2,e3,e4,e5]
    exact ⟨_, hle, by first | rfl | trivial, rfl⟩
  have e5 := decide_eq_false hbig
  have hB : bytesI x = some (numB x.N.toNat) := by unfold bytesI; rw [if_neg k1, if_neg k2, if_neg k3, if_neg (by omega)]
  rw [hB]
  have hM := zDd x.N.toNat (by omega) w0 h1
  rw [show ((x.N.toNat : Nat) : Int) = x.N by omega] at hM
  have hM := Lib.hid hM
  simp -dsimp -implicitDefEqProofs (disch := first | omega | assumption | (simp only [Option.isSome_some,Qt0]; done) | (simp only [List.length_cons,List.length_nil,List.length_append,Int.toNat_natCast] <;> omega) | fail) only [Nat.reduceLT,Nat.reduceLeDiff,Nat.reduceEqDiff,↓reduceIte,Int.reduceLT,Int.reduceLE,Int.reduceToNat,Int.reduceEq,Int.reduceNe,Nat.reduceAdd,Int.reduceAdd,Int.reduceSub,Int.reduceMul,Nat.reduceMul,Qp0,Qp1,Ql0,Qe0,zAa,zAb,hp,e1,e2,e3,e4,e5]
  refine hM.out.mono ?_
  rintro v hq ⟨rfl, hz⟩
  obtain rfl := hz.symm
  simp -dsimp -implicitDefEqProofs (disch := first | omega | assumption | (simp only [Option.isSome_some,Qt0]; done) | (simp only [List.length_cons,List.length_nil,List.length_append,Int.toNat_natCast] <;> omega) | fail) only [Nat.reduceLT,Nat.reduceLeDiff,Nat.reduceEqDiff,↓reduceIte,Int.reduceLT,Int.reduceLE,Int.reduceToNat,Int.reduceEq,Int.reduceNe,Nat.reduceAdd,Int.reduceAdd,Int.reduceSub,Int.reduceMul,Nat.reduceMul,Qp0,Qp1,Ql0,Qe0]
  exact ⟨_, hle, by first | rfl | trivial, rfl⟩
def Items (w0 : World) (h : PH) (A : Option Addr) (L : List It) : Prop :=
  ∀ (i : Nat) (x : It), L[i]? = some x → x.N ≤ 9223372036854775807 ∧ x.S.length ≤ 900000 ∧ x.V.length ≤ 900000 ∧ ∃ b o Ai cap, A = some ⟨b, o, none⟩ ∧ x.V.length ≤ cap ∧ Rv w0 h Ai (ints x.V) ∧ ∀ h', PH.Le h h' → Low w0 h' → rdN w0 h' ⟨b, o + i * 5, none⟩ 5 = some (itL x Ai cap)
def wres : WS → Value
  | (l, none) => .tuple #[str l, .int .i64 0, .int .i64 0]
  | (_, some (k, p)) => .tuple #[str [], .int .i64 k, .int .i64 p]
set_option maxRecDepth 20000 in
set_option maxHeartbeats 2000000 in
theorem written_any (w0 : World) (h : PH) (A : Option Addr) (c : Nat) (L : List It) (hL : L.length ≤ 1000000) (hr : Items w0 h A L) : PCalls Try.prog w0 42 [.slice A L.length c] h fun r h' => r = wres (writtenM L) ∧ PH.Le h h' := by
  refine zAp Try.func42 (by kernel_rfl) rfl _ Try.ntmps42 (by kernel_rfl) (by kernel_rfl) _ Try.results42 ?_
  simp -dsimp -implicitDefEqProofs (disch := first | omega | assumption | (simp only [Option.isSome_some,Qt0]; done) | (simp only [List.length_cons,List.length_nil,List.length_append,Int.toNat_natCast] <;> omega) | fail) only [Nat.reduceLT,Nat.reduceLeDiff,Nat.reduceEqDiff,↓reduceIte,Int.reduceLT,Int.reduceLE,Int.reduceToNat,Int.reduceEq,Int.reduceNe,Nat.reduceAdd,Int.reduceAdd,Int.reduceSub,Int.reduceMul,Nat.reduceMul,Qp0,Qp1,Ql0,Qe0]
  refine zD2 zA2 fun b0 hb0 => ?_
  simp -dsimp -implicitDefEqProofs (disch := first | omega | assumption | (simp only [Option.isSome_some,Qt0]; done) | (simp only [List.length_cons,List.length_nil,List.length_append,Int.toNat_natCast] <;> omega) | fail) only [Nat.reduceLT,Nat.reduceLeDiff,Nat.reduceEqDiff,↓reduceIte,Int.reduceLT,Int.reduceLE,Int.reduceToNat,Int.reduceEq,Int.reduceNe,Nat.reduceAdd,Int.reduceAdd,Int.reduceSub,Int.reduceMul,Nat.reduceMul,Qp0,Qp1,Ql0,Qe0]
  refine zB5 (fun n f h' => ∃ (i : Nat) (out : List UInt8) (v : Value), n + i = L.length ∧ f 0 = some (.slice A L.length c) ∧ f 5 = some v ∧ f 6 = some (.int .i64 i) ∧ out.length ≤ 65536 ∧ OwnS h h' 1 v out.length (bs out) ∧ (L.take i).foldl stepI ([], none) = (out, none)) (by kernel_rfl) L.length ⟨0, [], _, by omega, ?_, ?_, ?_, by simp, OwnS.zero 1 hb0, rfl⟩ ?_
  · simp -dsimp -implicitDefEqProofs (disch := first | omega | assumption | (simp only [Option.isSome_some,Qt0]; done) | (simp only [List.length_cons,List.length_nil,List.length_append,Int.toNat_natCast] <;> omega) | fail) only [Nat.reduceLT,Nat.reduceLeDiff,Nat.reduceEqDiff,↓reduceIte,Int.reduceLT,Int.reduceLE,Int.reduceToNat,Int.reduceEq,Int.reduceNe,Nat.reduceAdd,Int.reduceAdd,Int.reduceSub,Int.reduceMul,Nat.reduceMul,Qp0,Qp1,Ql0,Qe0]
  · simp -dsimp -implicitDefEqProofs (disch := first | omega | assumption | (simp only [Option.isSome_some,Qt0]; done) | (simp only [List.length_cons,List.length_nil,List.length_append,Int.toNat_natCast] <;> omega) | fail) only [Nat.reduceLT,Nat.reduceLeDiff,Nat.reduceEqDiff,↓reduceIte,Int.reduceLT,Int.reduceLE,Int.reduceToNat,Int.reduceEq,Int.reduceNe,Nat.reduceAdd,Int.reduceAdd,Int.reduceSub,Int.reduceMul,Nat.reduceMul,Qp0,Qp1,Ql0,Qe0]
  · simp -dsimp -implicitDefEqProofs (disch := first | omega | assumption | (simp only [Option.isSome_some,Qt0]; done) | (simp only [List.length_cons,List.length_nil,List.length_append,Int.toNat_natCast] <;> omega) | fail) only [Nat.reduceLT,Nat.reduceLeDiff,Nat.reduceEqDiff,↓reduceIte,Int.reduceLT,Int.reduceLE,Int.reduceToNat,Int.reduceEq,Int.reduceNe,Nat.reduceAdd,Int.reduceAdd,Int.reduceSub,Int.reduceMul,Nat.reduceMul,Qp0,Qp1,Ql0,Qe0]
    try rfl
  rintro n f h' ⟨i, out, v, hni, f0, f5, f6, hol, how, hW⟩ hl'
  obtain ⟨Ao, co, rfl, hco⟩ := how.own.len
  by_cases hi : i < L.length
  · have e1 : decide ((i : Int) < (L.length : Int)) = true := decide_eq_true (by omega)
    obtain ⟨x, hx⟩ : ∃ x, L[i]? = some x := ⟨_, List.getElem?_eq_getElem hi⟩
    obtain ⟨hxN, hxS, hxV, b, o, Ai, cap, rfl, hcap, hrv, hrd⟩ := hr i x hx
    have hrd := hrd h' how.le hl'
    have hB := rbytes_any x Ai cap hxN (by omega) (by omega) hcap w0 h' (hrv.more how.le)
    have hnext := writtenM_next hx
    rw [hW] at hnext
    unfold stepI at hnext
    simp only [Option.isSome_none, Bool.false_eq_true, if_false] at hnext
    cases hb : bytesI x with
    | none =>
      rw [hb] at hnext
      rw [zGw hnext rfl]
      have hg1 : (none : Option (List UInt8)).getD [] = [] := rfl
      have hg2 : (none : Option (List UInt8)).isSome = false := rfl
      rw [hb, hg1, hg2] at hB
      have hB := Lib.hid hB
      simp -dsimp -implicitDefEqProofs (disch := first | omega | assumption | (simp only [Option.isSome_some,Qt0]; done) | (simp only [List.length_cons,List.length_nil,List.length_append,Int.toNat_natCast] <;> omega) | fail) only [Nat.reduceLT,Nat.reduceLeDiff,Nat.reduceEqDiff,↓reduceIte,Int.reduceLT,Int.reduceLE,Int.reduceToNat,Int.reduceEq,Int.reduceNe,Nat.reduceAdd,Int.reduceAdd,Int.reduceSub,Int.reduceMul,Nat.reduceMul,Qp0,Qp1,Ql0,Qe0,f0,f5,f6,e1,hrd]
      refine hB.out.mono ?_
      rintro v hq ⟨rfl, hz⟩
      obtain rfl := hz.symm
      simp -dsimp -implicitDefEqProofs (disch := first | omega | assumption | (simp only [Option.isSome_some,Qt0]; done) | (simp only [List.length_cons,List.length_nil,List.length_append,Int.toNat_natCast] <;> omega) | fail) only [Nat.reduceLT,Nat.reduceLeDiff,Nat.reduceEqDiff,↓reduceIte,Int.reduceLT,Int.reduceLE,Int.reduceToNat,Int.reduceEq,Int.reduceNe,Nat.reduceAdd,Int.reduceAdd,Int.reduceSub,Int.reduceMul,Nat.reduceMul,Qp0,Qp1,Ql0,Qe0,f0,f5,f6]
      exact ⟨_, PH.Le.refl _, by first | rfl | trivial, how.le⟩
    | some y =>
      rw [hb] at hnext
      simp only at hnext
      unfold putM at hnext
      simp only [Option.isSome_none, Bool.false_eq_true, if_false] at hnext
      have hg1 : (some y : Option (List UInt8)).getD [] = y := rfl
      have hg2 : (some y : Option (List UInt8)).isSome = true := rfl
      rw [hb, hg1, hg2] at hB
      have hB := Lib.hid hB
      by_cases hlong : 65536 < out.length + y.length
      · rw [if_pos hlong] at hnext
        rw [zGw hnext rfl]
        have e2 : decide ((y.length : Int) > 65536 - (out.length : Int)) = true := decide_eq_true (by omega)
        simp -dsimp -implicitDefEqProofs (disch := first | omega | assumption | (simp only [Option.isSome_some,Qt0]; done) | (simp only [List.length_cons,List.length_nil,List.length_append,Int.toNat_natCast] <;> omega) | fail) only [Nat.reduceLT,Nat.reduceLeDiff,Nat.reduceEqDiff,↓reduceIte,Int.reduceLT,Int.reduceLE,Int.reduceToNat,Int.reduceEq,Int.reduceNe,Nat.reduceAdd,Int.reduceAdd,Int.reduceSub,Int.reduceMul,Nat.reduceMul,Qp0,Qp1,Ql0,Qe0,f0,f5,f6,e1,hrd]
        refine hB.out.mono ?_
        rintro v hq ⟨rfl, hz⟩
        obtain rfl := hz.symm
        simp -dsimp -implicitDefEqProofs (disch := first | omega | assumption | (simp only [Option.isSome_some,Qt0]; done) | (simp only [List.length_cons,List.length_nil,List.length_append,Int.toNat_natCast] <;> omega) | fail) only [Nat.reduceLT,Nat.reduceLeDiff,Nat.reduceEqDiff,↓reduceIte,Int.reduceLT,Int.reduceLE,Int.reduceToNat,Int.reduceEq,Int.reduceNe,Nat.reduceAdd,Int.reduceAdd,Int.reduceSub,Int.reduceMul,Nat.reduceMul,Qp0,Qp1,Ql0,Qe0,f0,f5,f6,e2]
        exact ⟨_, PH.Le.refl _, by first | rfl | trivial, how.le⟩
      · rw [if_neg hlong] at hnext
        have e2 : decide ((y.length : Int) > 65536 - (out.length : Int)) = false := decide_eq_false (by omega)
        simp -dsimp -implicitDefEqProofs (disch := first | omega | assumption | (simp only [Option.isSome_some,Qt0]; done) | (simp only [List.length_cons,List.length_nil,List.length_append,Int.toNat_natCast] <;> omega) | fail) only [Nat.reduceLT,Nat.reduceLeDiff,Nat.reduceEqDiff,↓reduceIte,Int.reduceLT,Int.reduceLE,Int.reduceToNat,Int.reduceEq,Int.reduceNe,Nat.reduceAdd,Int.reduceAdd,Int.reduceSub,Int.reduceMul,Nat.reduceMul,Qp0,Qp1,Ql0,Qe0,f0,f5,f6,e1,hrd]
        refine hB.out.mono ?_
        rintro v hq ⟨rfl, hz⟩
        obtain rfl := hz.symm
        simp -dsimp -implicitDefEqProofs (disch := first | omega | assumption | (simp only [Option.isSome_some,Qt0]; done) | (simp only [List.length_cons,List.length_nil,List.length_append,Int.toNat_natCast] <;> omega) | fail) only [Nat.reduceLT,Nat.reduceLeDiff,Nat.reduceEqDiff,↓reduceIte,Int.reduceLT,Int.reduceLE,Int.reduceToNat,Int.reduceEq,Int.reduceNe,Nat.reduceAdd,Int.reduceAdd,Int.reduceSub,Int.reduceMul,Nat.reduceMul,Qp0,Qp1,Ql0,Qe0,f0,f5,f6,e2]
        refine zDb zA2 Try.underlying9 how.own (by omega) (fun v' h4 ho hst _ => ?_)
        rw [← List.length_append, ← zBb] at ho
        simp -dsimp -implicitDefEqProofs (disch := first | omega | assumption | (simp only [Option.isSome_some,Qt0]; done) | (simp only [List.length_cons,List.length_nil,List.length_append,Int.toNat_natCast] <;> omega) | fail) only [Nat.reduceLT,Nat.reduceLeDiff,Nat.reduceEqDiff,↓reduceIte,Int.reduceLT,Int.reduceLE,Int.reduceToNat,Int.reduceEq,Int.reduceNe,Nat.reduceAdd,Int.reduceAdd,Int.reduceSub,Int.reduceMul,Nat.reduceMul,Qp0,Qp1,Ql0,Qe0,f0,f5,f6]
        exact ⟨n - 1, _, by omega, PH.Le.refl _, i + 1, out ++ y, v', by omega, by trivial, by trivial, by simp, by simp; omega, how.stays hst ho, hnext⟩
  · have e1 : decide ((i : Int) < (L.length : Int)) = false := decide_eq_false (by omega)
    have hW' : writtenM L = (out, none) := by unfold writtenM; rw [← hW, List.take_of_length_le (by omega)]
    rw [hW']
    simp -dsimp -implicitDefEqProofs (disch := first | omega | assumption | (simp only [Option.isSome_some,Qt0]; done) | (simp only [List.length_cons,List.length_nil,List.length_append,Int.toNat_natCast] <;> omega) | fail) only [Nat.reduceLT,Nat.reduceLeDiff,Nat.reduceEqDiff,↓reduceIte,Int.reduceLT,Int.reduceLE,Int.reduceToNat,Int.reduceEq,Int.reduceNe,Nat.reduceAdd,Int.reduceAdd,Int.reduceSub,Int.reduceMul,Nat.reduceMul,Qp0,Qp1,Ql0,Qe0,f0,f5,f6,e1]
    refine zBo Try.underlying77 Try.underlying5 Try.underlying9 (Rs.own how.own) how.own.nil_zero ?_
    simp -dsimp -implicitDefEqProofs (disch := first | omega | assumption | (simp only [Option.isSome_some,Qt0]; done) | (simp only [List.length_cons,List.length_nil,List.length_append,Int.toNat_natCast] <;> omega) | fail) only [Nat.reduceLT,Nat.reduceLeDiff,Nat.reduceEqDiff,↓reduceIte,Int.reduceLT,Int.reduceLE,Int.reduceToNat,Int.reduceEq,Int.reduceNe,Nat.reduceAdd,Int.reduceAdd,Int.reduceSub,Int.reduceMul,Nat.reduceMul,Qp0,Qp1,Ql0,Qe0,f0,f5,f6]
    exact ⟨_, PH.Le.refl _, by first | rfl | trivial, how.le⟩
end Go.Proofs.Ytblikpbaeippaaa


namespace Go.Proofs.Ytblikpbaeippaaa
set_option linter.unusedVariables false
set_option linter.unusedSimpArgs false
open Go.RowKit Px Wr
theorem info_it : (Try.prog.info? 91).map (fun i => (i.zero, i.size, i.bytes)) = some (some (.agg #[.int .i64 0, .int .i64 0, .string ⟨#[]⟩, .bool false, .slice none 0 0]), 5, 64) := by kernel_rfl
theorem el_it : El Try.prog 92 91 (.agg #[.int .i64 0, .int .i64 0, .string ⟨#[]⟩, .bool false, .slice none 0 0]) 5 64 := ⟨Try.underlying92, info_parts info_it, rfl, by decide⟩
theorem zHx {α : Type} (g : α → List Value) (m : Nat) (hg : ∀ a, (g a).length = m) : ∀ (L : List α) (i : Nat) (a : α), L[i]? = some a → ((L.flatMap g).drop (i * m)).take m = g a ∧ i * m + m ≤ (L.flatMap g).length
  | [], i, a, h => by simp at h
  | x :: L, 0, a, h => by
    simp at h
    subst h
    have := hg x
    simp only [List.flatMap_cons, Nat.zero_mul, List.drop_zero, List.length_append]
    exact ⟨by rw [← this, List.take_left], by omega⟩
  | x :: L, i + 1, a, h => by
    obtain ⟨h1, h2⟩ := zHx g m hg L i a (by simpa using h)
    have := hg x
    simp only [List.flatMap_cons, List.length_append]
    refine ⟨?_, by rw [Nat.add_mul]; omega⟩
    rw [← h1, show (i + 1) * m = (g x).length + i * m by rw [this, Nat.add_mul]; omega, ← List.drop_drop, List.drop_left]
theorem itL_length (p : It × Option Addr × Nat) : (itL p.1 p.2.1 p.2.2).length = 5 := rfl
theorem Items.lit {w0 : World} {h : PH} {lb lim : Nat} (Ls : List (It × Option Addr × Nat)) (hm : h.m lb = some ⟨Ls.flatMap fun p => itL p.1 p.2.1 p.2.2, lim⟩)
    (hb : ∀ p ∈ Ls, p.1.N ≤ 9223372036854775807 ∧ p.1.S.length ≤ 900000 ∧ p.1.V.length ≤ 900000 ∧ p.1.V.length ≤ p.2.2 ∧ Rv w0 h p.2.1 (ints p.1.V)) : Items w0 h (some ⟨lb, 0, none⟩) (Ls.map (·.1)) := fun i x hx => by
  rw [List.getElem?_map] at hx
  obtain ⟨p, hp, rfl⟩ := Option.map_eq_some_iff.1 hx
  obtain ⟨h1, h2, h3, h4, h5⟩ := hb p (List.mem_of_getElem? hp)
  refine ⟨h1, h2, h3, lb, 0, p.2.1, p.2.2, rfl, h4, h5, fun h' hl _ => ?_⟩
  obtain ⟨g1, g2⟩ := zHx (fun p : It × Option Addr × Nat => itL p.1 p.2.1 p.2.2) 5 itL_length Ls i p hp
  unfold rdN
  simp only [hl.m _ _ hm]
  rw [if_pos ⟨trivial, by simpa using g2⟩, Nat.zero_add, g1]
def tI (y : List UInt8) : It := ⟨1, 0, y, false, []⟩
def nI (n : Int) : It := ⟨0, n, [], false, []⟩
theorem step_t (s : WS) (y : List UInt8) : stepI s (tI y) = textM s y := by rw [← itemM_eq]; rfl
theorem step_n (s : WS) (n : Int) : stepI s (nI n) = numM s n := by rw [← itemM_eq]; rfl
end Go.Proofs.Ytblikpbaeippaaa

