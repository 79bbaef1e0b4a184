/- Parts Jl2, Jq0, Jl3, Jl4, Jl5, Jc0, Base, Par, Pq, Wdo, Jq1, Jc1, joined. No condition. -/
import Derived.Test.YtblikpbaeippaaaM11K
import Derived.Test.YtblikpbaeippaaaM12K
import Derived.Test.YtblikpbaeippaaaRows
import Derived.WalkKit
import Derived.ProofKit
import Derived.OpenShut
import Derived.SizedLaws
import Derived.OpenVars
import Derived.Lib.Hide
import Derived.Deep.Fields
import Derived.Deep.Slices
import Derived.Test.YtblikpbaeippaaaM3K
import Derived.Test.YtblikpbaeippaaaM5K
namespace Go.Proofs.Ytblikpbaeippaaa
set_option linter.unusedVariables false
set_option linter.unusedSimpArgs false
open Go.RowKit Px Wr
theorem D2.make {h h1 h2 : PH} {a b : Nat} {da db : Dk} (ha : DS h h1 a da) (hb : DS h1 h2 b db) : D2 h h2 a da b db := by
  obtain ⟨A, c, a1, a2, a3⟩ := ha.cells
  obtain ⟨B, e, b1, b2, b3⟩ := hb.cells
  have hl := hb.le2
  have hn : ∀ x, h1.m x = none → h.m x = none := fun x q => by
    cases hk : h.m x with
    | none => rfl
    | some k => rw [ha.same _ _ hk] at q; cases q
  have hab : a ≠ b := fun r => by subst r; rw [hb.low] at a1; cases a1
  refine ⟨Nat.le_trans ha.top hb.top, fun x k e => hl.m _ _ (ha.same x k e), hab, ha.low, hn _ hb.low, A, c, B, e, hl.m _ _ a1, a2.more hl, b1, b2, fun x q => ⟨(a3 x q).1, (a3 x q).2, fun r => ?_⟩, fun x q => ⟨hn _ (b3 x q).1, fun r => ?_, (b3 x q).2⟩, fun x y qx qy r => ?_⟩
  · obtain ⟨k, hk⟩ := a2.known q
    rw [r, hb.low] at hk; cases hk
  · have := (b3 x q).1
    rw [r, a1] at this; cases this
  · obtain ⟨k, hk⟩ := a2.known qx
    have := (b3 y qy).1
    rw [← r, hk] at this; cases this
def dk0 (room : Int) : Dk := ⟨[], 0, room, -1, false⟩
theorem JS.grow {h0 h h' : PH} {j a b g : Nat} {da db : Dk} {o : Bool} (hj : JS h0 h j a b da db g o) (hl : PH.Le h h') : ∃ h1, JS h1 h' j a b da db g o ∧ PH.Le h0 h1 ∧ ∀ x k, h.top ≤ x → h'.m x = some k → h1.m x = some k := by
  obtain ⟨h1, z1, z2, z3, z4, z5⟩ := hj.d2.grow hl
  have hJ : h1.m j = some ⟨jL a b g o, 4⟩ := z2.m _ _ (by rw [PH.new_m, if_pos rfl])
  have hL := (JS.low_le h0 hj.low _).trans z2
  refine ⟨h1.del j, z1.js hJ, ⟨hL.top, fun x k e => ?_⟩, fun x k r1 r2 => ?_⟩
  · rw [PH.del_m, if_neg (fun r => by subst r; rw [hj.low] at e; cases e)]
    exact hL.m x k e
  · have := h.lt _ _ hj.cell
    rw [PH.del_m, if_neg (by omega)]
    exact z5 x k r1 r2
theorem dk0_good {room : Int} (h : 0 ≤ room ∧ room ≤ 1048576) : Good (dk0 room) := ⟨by show (0 : Int) ≤ 0; omega, by show (0 : Int) ≤ ((0 : Nat) : Int); omega, by show 0 ≤ 1048576; omega, h.1, h.2, by show (-1 : Int) ≤ _; omega⟩
theorem dk0_clean {room : Int} (h : 0 ≤ room ∧ room ≤ 1048576) : Clean (dk0 room) [] := ⟨dk0_good h, rfl, rfl, rfl⟩
set_option maxRecDepth 20000 in
theorem two_any (room : Int) (hr : 0 ≤ room ∧ room ≤ 1048576) (w0 : World) (h : PH) : PCalls Try.prog w0 9 [.int .i64 room] h fun v h' => ∃ a b, v = .tuple #[.pointer (some ⟨a, 0, none⟩), .pointer (some ⟨b, 0, none⟩)] ∧ D2 h h' a (dk0 room) b (dk0 room) := by
  refine zAp Try.func9 (by kernel_rfl) rfl _ Try.ntmps9 (by kernel_rfl) (by kernel_rfl) _ Try.results9 ?_
  simp -dsimp -implicitDefEqProofs (disch := first | omega | assumption | (simp only [Option.isSome_some,Qt0]; done) | (simp only [List.length_cons,List.length_nil,List.length_append,Int.toNat_natCast] <;> omega) | fail) only [Nat.reduceLT,Nat.reduceLeDiff,Nat.reduceEqDiff,↓reduceIte,Int.reduceLT,Int.reduceLE,Int.reduceToNat,Int.reduceEq,Int.reduceNe,Nat.reduceAdd,Int.reduceAdd,Int.reduceSub,Int.reduceMul,Nat.reduceMul,Qp0,Qp1,Ql0,Qe0]
  refine (new_ok w0 h room hr).mono ?_
  rintro v h1 ⟨a, rfl, ha⟩
  simp -dsimp -implicitDefEqProofs (disch := first | omega | assumption | (simp only [Option.isSome_some,Qt0]; done) | (simp only [List.length_cons,List.length_nil,List.length_append,Int.toNat_natCast] <;> omega) | fail) only [Nat.reduceLT,Nat.reduceLeDiff,Nat.reduceEqDiff,↓reduceIte,Int.reduceLT,Int.reduceLE,Int.reduceToNat,Int.reduceEq,Int.reduceNe,Nat.reduceAdd,Int.reduceAdd,Int.reduceSub,Int.reduceMul,Nat.reduceMul,Qp0,Qp1,Ql0,Qe0]
  refine (new_ok w0 h1 room hr).mono ?_
  rintro v h2 ⟨b, rfl, hb⟩
  simp -dsimp -implicitDefEqProofs (disch := first | omega | assumption | (simp only [Option.isSome_some,Qt0]; done) | (simp only [List.length_cons,List.length_nil,List.length_append,Int.toNat_natCast] <;> omega) | fail) only [Nat.reduceLT,Nat.reduceLeDiff,Nat.reduceEqDiff,↓reduceIte,Int.reduceLT,Int.reduceLE,Int.reduceToNat,Int.reduceEq,Int.reduceNe,Nat.reduceAdd,Int.reduceAdd,Int.reduceSub,Int.reduceMul,Nat.reduceMul,Qp0,Qp1,Ql0,Qe0]
  exact ⟨_, PH.Le.refl _, a, b, rfl, D2.make ha hb⟩
theorem zEc {h0 : PH} {a b : Nat} {da db : Dk} (k : Int) (mask : List UInt8) (hm : mask.length ≤ 1000000) (w0 : World) (h : PH) (hd : D2 h0 h a da b db) (g : Good da) : PCalls Try.prog w0 15 [.pointer (some ⟨a, 0, none⟩), .int .i64 k, str mask] h fun v h' => D2 h0 h' a (da.crash k mask) b db := by
  obtain ⟨h1, q1, q2, q3⟩ := hd.use
  exact (crash_any h1 a da w0 h q1 g k mask hm).mono fun v h' r => q3 h' _ r
theorem Pres.crash {d : Dk} {g : Nat} {l : List (List UInt8)} {ps : List Pt} (p : Pres d g l ps) (k : Int) (mask : List UInt8) : Pres (d.crash k mask) g l ps :=
  ⟨zFu p.clean.good p.clean.txt p.clean.safe k mask, p.ok, p.ord, p.gen, p.recs, p.last⟩
theorem payload_36 {x : Pt} (h : x.Ok) : (payload x).length ≤ 36 + x.t.length := by
  have h1 := zBg (n := x.k) (by have := h.k1; omega)
  have h2 := zBg (n := x.g) (by have := h.g1; omega)
  have h3 := zBg (n := x.p) (by have := h.p1; omega)
  have h4 := zBg (n := x.t.length) (by have := h.t1; omega)
  unfold payload
  simp only [List.length_append]; omega
theorem zB1 {x : Pt} (h : x.Ok) : (sealP x).length ≤ 93 + 2 * x.t.length := by
  have := payload_36 h
  rw [zDh]; omega
theorem start_ok0 {d : Dk} (c : Clean d []) (hf : d.fuse < 0) (hr : 1000 ≤ d.room) : (startM d 0 []).2 = none := by
  have hl : d.l = [] := c.txt
  have hM : startM d 0 [] = andK (d.cut 0) fun d1 => writeM d1 (0 + 1) 0 (flatP (begP (0 + 1) d1.safeV.toNat [])) := rfl
  have hcut := cut_ok c.up hf 0 (by omega)
  have h0 : ((0 : Nat) : Int) = 0 := rfl
  rw [h0] at hcut
  rw [hM]
  unfold andK
  rw [hcut]
  simp only
  have hs := c.safe
  have hsf : (if (0 : Int) < d.safe then (0 : Int) else d.safe) = 0 := by
    rw [hs]; simp
  rw [hsf, hl]
  have hsv : (⟨List.take 0 [], 0, d.room, d.fuse, d.down⟩ : Dk).safeV.toNat = 0 := by unfold Dk.safeV; split <;> rfl
  rw [hsv]
  have k1 : Pt.Ok ⟨1, 0 + 1, 0, []⟩ := zBh (by omega) (by omega) (by omega) 1 (.inl rfl)
  have k3 : Pt.Ok ⟨3, 0 + 1, 0, []⟩ := zBh (by omega) (by omega) (by omega) 3 (.inr (.inl rfl))
  have h1 := zB1 k1
  have h3 := zB1 k3
  have hbl : (flatP (begP (0 + 1) 0 [])).length ≤ 186 := by
    rw [zEx]
    have h2 : flatP (recP (0 + 1) 0 []) = [] := rfl
    rw [h2]
    simp only [List.length_append, List.length_nil] at *; omega
  have k4 : Pt.Ok ⟨4, 0 + 1, ([] ++ flatP (begP (0 + 1) 0 [])).length, []⟩ := zBh (by omega) (by omega) (by rw [List.nil_append]; omega) 4 (.inr (.inr rfl))
  have h4 := zB1 k4
  refine write_ok (by exact c.up) (by exact hf) ?_
  simp only [List.take_nil, List.length_nil] at h4 ⊢
  omega
theorem flat3 {g q : Nat} (hk : AllOk (begP g 0 [] ++ [⟨4, g, q, []⟩])) : (flatP (begP g 0 [] ++ [⟨4, g, q, []⟩])).length ≤ 279 := by
  have h1 := zB1 (hk ⟨1, g, 0, []⟩ (by simp [begP]))
  have h2 := zB1 (hk ⟨3, g, 0, []⟩ (by simp [begP]))
  have h3 := zB1 (hk ⟨4, g, q, []⟩ (by simp [begP]))
  have e : flatP (begP g 0 [] ++ [⟨4, g, q, []⟩]) = sealP ⟨1, g, 0, []⟩ ++ sealP ⟨3, g, 0, []⟩ ++ sealP ⟨4, g, q, []⟩ := by
    simp [flatP, begP, recP]
  rw [e]
  simp only [List.length_append, List.length_nil] at *
  omega
theorem put_ok0 {d : Dk} {g : Nat} {hv : List (List UInt8)} {ps : List Pt} (p : Pres d g hv ps) (hf : d.fuse < 0) (hr : (((flatP ps).length + 200 : Nat) : Int) ≤ d.room) : (PutM d g false [[120]]).2 = none := by
  have hlen := zDz p.clean
  obtain ⟨g1, g2⟩ := p.g1
  have hsf : d.safeV.toNat = (flatP ps).length := by rw [zCp p.clean.up, p.clean.safe, Int.toNat_natCast]
  have hM : PutM d g false [[120]] = writeM d g ((flatP ps).length : Nat) (flatP (recP g (flatP ps).length [[120]])) := by
    unfold PutM
    rw [if_neg (by decide), if_neg (by decide), if_neg (by decide), if_neg (by rw [p.clean.up]; decide), hsf, p.clean.txt]
  rw [hM]
  have hk := zCc (g := g) (p := (flatP ps).length) (l := [[120]]) g1 g2 (by omega) (by decide)
  have h1 := zB1 (hk ⟨2, g, (flatP ps).length, [120]⟩ (by simp [recP]))
  have e : flatP (recP g (flatP ps).length [[120]]) = sealP ⟨2, g, (flatP ps).length, [120]⟩ := by simp [flatP, recP]
  rw [e]
  simp only [List.length_cons, List.length_nil] at h1
  have h4 := zB1 (zBh (g := g) (p := (d.l ++ sealP ⟨2, g, (flatP ps).length, [120]⟩).length) g1 g2 (by rw [p.clean.txt, List.length_append]; omega) 4 (.inr (.inr rfl)))
  refine write_ok p.clean.up hf ?_
  simp only [List.length_nil] at h4
  rw [p.clean.txt] at *
  omega
set_option maxRecDepth 20000 in
set_option maxHeartbeats 4000000 in
theorem awake10_any (w0 : World) (h : PH) : PCalls Try.prog w0 7 [] h fun v h' => v = .bool true ∧ PH.Le h h' := by
  refine zCb fun q0 hlq hlow hut => ?_
  refine zAp Try.func7 (by kernel_rfl) rfl _ Try.ntmps7 (by kernel_rfl) (by kernel_rfl) _ Try.results7 ?_
  simp -dsimp -implicitDefEqProofs (disch := first | omega | assumption | (simp only [Option.isSome_some,Qt0]; done) | (simp only [List.length_cons,List.length_nil,List.length_append,Int.toNat_natCast] <;> omega) | fail) only [Nat.reduceLT,Nat.reduceLeDiff,Nat.reduceEqDiff,↓reduceIte,Int.reduceLT,Int.reduceLE,Int.reduceToNat,Int.reduceEq,Int.reduceNe,Nat.reduceAdd,Int.reduceAdd,Int.reduceSub,Int.reduceMul,Nat.reduceMul,Qp0,Qp1,Ql0,Qe0]
  refine (two_any 10000 (by omega) w0 q0).mono ?_
  rintro v q1 ⟨a, b, rfl, hD⟩
  have hg0 := dk0_good (room := 10000) (by omega)
  have hc0 := dk0_clean (room := 10000) (by omega)
  simp -dsimp -implicitDefEqProofs (disch := first | omega | assumption | (simp only [Option.isSome_some,Qt0]; done) | (simp only [List.length_cons,List.length_nil,List.length_append,Int.toNat_natCast] <;> omega) | fail) only [Nat.reduceLT,Nat.reduceLeDiff,Nat.reduceEqDiff,↓reduceIte,Int.reduceLT,Int.reduceLE,Int.reduceToNat,Int.reduceEq,Int.reduceNe,Nat.reduceAdd,Int.reduceAdd,Int.reduceSub,Int.reduceMul,Nat.reduceMul,Qp0,Qp1,Ql0,Qe0]
  refine (zEt w0 q1 hD hg0 hg0).mono ?_
  rintro v q2 ⟨da', db', e, sw, g, l, hop, hov⟩
  obtain ⟨rfl, rfl, rfl, rfl, rfl, rfl⟩ := zIe hc0 hc0 hop
  have hst := start_ok0 hc0 (by show (-1 : Int) < 0; omega) (by show (1000 : Int) ≤ 10000; omega)
  rw [hst] at hov
  obtain ⟨j, V, h1, rfl, hl1, hj, hV, hVn⟩ := hov
  rw [if_pos rfl] at hj
  rcases zFn hc0 (g := 0) (l := []) (by omega) (fun t ht => by cases ht) (by decide) with ⟨h5, _⟩ | ⟨d1, ext, c1, r1, f1, x1, ⟨q, hq, rfl⟩, wo⟩
  · rw [hst] at h5; cases h5
  rw [hst] at wo
  have hp : Pres (startM (dk0 10000) 0 []).1 1 [] (begP 1 0 [] ++ [⟨4, 1, q, []⟩]) := by
    rcases wo.out with ⟨_, hc⟩ | ⟨h4, _⟩ | ⟨h5, _⟩
    · exact Pres.begun hq x1 hc
    · cases h4
    · cases h5
  have hroom : (startM (dk0 10000) 0 []).1.room = 10000 := by
    rcases wo.room with h | h
    · rw [h, r1]; rfl
    · rw [hp.clean.up] at h; cases h
  have hfuse : (startM (dk0 10000) 0 []).1.fuse < 0 := (wo.fuse (f1 (by show (-1 : Int) < 0; omega))).1
  generalize (startM (dk0 10000) 0 []).1 = db at *
  obtain ⟨A, c, rfl, hc⟩ := hV.len
  simp -dsimp -implicitDefEqProofs (disch := first | omega | assumption | (simp only [Option.isSome_some,Qt0]; done) | (simp only [List.length_cons,List.length_nil,List.length_append,Int.toNat_natCast] <;> omega) | fail) only [Nat.reduceLT,Nat.reduceLeDiff,Nat.reduceEqDiff,↓reduceIte,Int.reduceLT,Int.reduceLE,Int.reduceToNat,Int.reduceEq,Int.reduceNe,Nat.reduceAdd,Int.reduceAdd,Int.reduceSub,Int.reduceMul,Nat.reduceMul,Qp0,Qp1,Ql0,Qe0]
  refine (jgen_any w0 q2 hj).mono ?_
  rintro v q3 ⟨rfl, rfl⟩
  simp -dsimp -implicitDefEqProofs (disch := first | omega | assumption | (simp only [Option.isSome_some,Qt0]; done) | (simp only [List.length_cons,List.length_nil,List.length_append,Int.toNat_natCast] <;> omega) | fail) only [Nat.reduceLT,Nat.reduceLeDiff,Nat.reduceEqDiff,↓reduceIte,Int.reduceLT,Int.reduceLE,Int.reduceToNat,Int.reduceEq,Int.reduceNe,Nat.reduceAdd,Int.reduceAdd,Int.reduceSub,Int.reduceMul,Nat.reduceMul,Qp0,Qp1,Ql0,Qe0]
  refine zBz (v := str [120]) zC0 rfl (by omega) fun nb hnb => ?_
  obtain ⟨h2, hj2, hle2, hrow⟩ := hj.grow ((PH.Le.refl q3).new nb ⟨[str [120]], 1⟩ hnb)
  simp -dsimp -implicitDefEqProofs (disch := first | omega | assumption | (simp only [Option.isSome_some,Qt0]; done) | (simp only [List.length_cons,List.length_nil,List.length_append,Int.toNat_natCast] <;> omega) | fail) only [Nat.reduceLT,Nat.reduceLeDiff,Nat.reduceEqDiff,↓reduceIte,Int.reduceLT,Int.reduceLE,Int.reduceToNat,Int.reduceEq,Int.reduceNe,Nat.reduceAdd,Int.reduceAdd,Int.reduceSub,Int.reduceMul,Nat.reduceMul,Qp0,Qp1,Ql0,Qe0]
  have hnr : h2.m nb = some ⟨[str [120]], 1⟩ := hrow nb _ hnb (by rw [PH.new_m, if_pos rfl])
  have hown : Own h2 1 (.slice (some ⟨nb, 0, none⟩) 1 1) 1 [str [120]] := ⟨rfl, .inr ⟨nb, 1, rfl, Nat.le_refl _, by unfold maxLen; omega, hnr⟩⟩
  have hps := flat3 hp.ok
  have hPut := put_ok0 hp hfuse (by rw [hroom]; omega)
  obtain ⟨ext, hx, hwo⟩ := pres_put (l := [[120]]) hp (by decide) (by decide) (by decide)
  refine (jPut_any (some ⟨nb, 0, none⟩) 1 [[120]] w0 _ hj2 hp.clean.good hp.g1 (Rv.own hown) (by decide) (fun h4 _ p hp40 => ?_)).mono ?_
  · have := zFc (g := 1) (p := p) (l := [[120]]) (by omega) (by omega) (by omega) h4
    simp only [List.length_cons, List.length_nil] at this
    omega
  have hp2 : Pres (PutM db 1 false [[120]]).1 1 [[120]] (begP 1 0 [] ++ [⟨4, 1, q, []⟩] ++ ext) := by
    rcases hwo.out with ⟨_, hc⟩ | ⟨h4, _⟩ | ⟨h5, _⟩
    · exact Pres.more hp.ok hp.ord hp.gen hp.recs hx hc
    · rw [hPut] at h4; cases h4
    · rw [hPut] at h5; cases h5
  rw [hPut]
  generalize (PutM db 1 false [[120]]).1 = dB at *
  rintro v q4 ⟨rfl, hj3⟩
  simp -dsimp -implicitDefEqProofs (disch := first | omega | assumption | (simp only [Option.isSome_some,Qt0]; done) | (simp only [List.length_cons,List.length_nil,List.length_append,Int.toNat_natCast] <;> omega) | fail) only [Nat.reduceLT,Nat.reduceLeDiff,Nat.reduceEqDiff,↓reduceIte,Int.reduceLT,Int.reduceLE,Int.reduceToNat,Int.reduceEq,Int.reduceNe,Nat.reduceAdd,Int.reduceAdd,Int.reduceSub,Int.reduceMul,Nat.reduceMul,Qp0,Qp1,Ql0,Qe0]
  have hd3 : D2 q0 q4 a (dk0 10000) b dB := hj3.d2.symm.base ((hl1.trans hle2).trans (JS.low_le _ hj3.low _))
  refine (zEc 0 [] (by decide) w0 q4 hd3 hg0).mono ?_
  intro v q5 hd4
  simp -dsimp -implicitDefEqProofs (disch := first | omega | assumption | (simp only [Option.isSome_some,Qt0]; done) | (simp only [List.length_cons,List.length_nil,List.length_append,Int.toNat_natCast] <;> omega) | fail) only [Nat.reduceLT,Nat.reduceLeDiff,Nat.reduceEqDiff,↓reduceIte,Int.reduceLT,Int.reduceLE,Int.reduceToNat,Int.reduceEq,Int.reduceNe,Nat.reduceAdd,Int.reduceAdd,Int.reduceSub,Int.reduceMul,Nat.reduceMul,Qp0,Qp1,Ql0,Qe0]
  refine (zEc 0 [] (by decide) w0 q5 hd4.symm hp2.clean.good).mono ?_
  intro v q6 hd5
  have hp3 := hp2.crash 0 []
  have hc3 := zFu hc0.good hc0.txt hc0.safe 0 []
  generalize dB.crash 0 [] = dC at *
  generalize (dk0 10000).crash 0 [] = dA at *
  simp -dsimp -implicitDefEqProofs (disch := first | omega | assumption | (simp only [Option.isSome_some,Qt0]; done) | (simp only [List.length_cons,List.length_nil,List.length_append,Int.toNat_natCast] <;> omega) | fail) only [Nat.reduceLT,Nat.reduceLeDiff,Nat.reduceEqDiff,↓reduceIte,Int.reduceLT,Int.reduceLE,Int.reduceToNat,Int.reduceEq,Int.reduceNe,Nat.reduceAdd,Int.reduceAdd,Int.reduceSub,Int.reduceMul,Nat.reduceMul,Qp0,Qp1,Ql0,Qe0]
  refine (zEt w0 q6 hd5.symm hc3.good hp3.clean.good).low.mono ?_
  rintro v q7 ⟨⟨dA', dC', e, sw, g, l, hop, hov⟩, hlow7⟩
  obtain ⟨rfl, rfl, rfl, rfl, rfl, rfl⟩ := open_right hp3 hc3.up (by rw [hc3.txt]; exact Old.nil 1) hop
  obtain ⟨j2, V2, h3, rfl, hl3, hj4, hV2, _⟩ := hov
  obtain ⟨A2, c2, rfl, hcc2⟩ := hV2.len
  rw [if_pos rfl] at hj4
  have hrv : Rv w0 q7 A2 [str [120]] := (Rv.own hV2).more hj4.le
  obtain ⟨b2, o2, rfl⟩ := hrv.addr (by decide)
  have hrd : rd w0 q7 ⟨b2, o2, none⟩ = some (str [120]) := by rw [zAa]; exact hrv.get hlow7 (j := 0) rfl
  simp -dsimp -implicitDefEqProofs (disch := first | omega | assumption | (simp only [Option.isSome_some,Qt0]; done) | (simp only [List.length_cons,List.length_nil,List.length_append,Int.toNat_natCast] <;> omega) | fail) only [Nat.reduceLT,Nat.reduceLeDiff,Nat.reduceEqDiff,↓reduceIte,Int.reduceLT,Int.reduceLE,Int.reduceToNat,Int.reduceEq,Int.reduceNe,Nat.reduceAdd,Int.reduceAdd,Int.reduceSub,Int.reduceMul,Nat.reduceMul,Qp0,Qp1,Ql0,Qe0,hrd]
  exact ⟨q7, PH.Le.refl _, trivial, (hlq.trans hl3).trans hj4.le⟩
end Go.Proofs.Ytblikpbaeippaaa


namespace Go.Proofs.Ytblikpbaeippaaa
set_option linter.unusedVariables false
set_option linter.unusedSimpArgs false
open Go.RowKit Px Wr
theorem zE2 {α : Type} (g : α → List Value) (m : Nat) (hg : ∀ a, (g a).length = m) : ∀ (L : List α) (i : Nat) (a : α), L[i]? = some a → ((L.flatMap g).drop (i * m)).take m = g a ∧ i * m + m ≤ (L.flatMap g).length
  | [], i, a, h => by simp at h
  | x :: L, 0, a, h => by
    simp at h
    subst h
    have := hg x
    simp only [List.flatMap_cons, Nat.zero_mul, List.drop_zero, List.length_append]
    exact ⟨by rw [← this, List.take_left], by omega⟩
  | x :: L, i + 1, a, h => by
    obtain ⟨h1, h2⟩ := zE2 g m hg L i a (by simpa using h)
    have := hg x
    simp only [List.flatMap_cons, List.length_append]
    refine ⟨?_, by rw [Nat.add_mul]; omega⟩
    rw [← h1, show (i + 1) * m = (g x).length + i * m by rw [this, Nat.add_mul]; omega, ← List.drop_drop, List.drop_left]
section
variable {α : Type} {g : α → List Value} {m : Nat} {w0 : World} {h : PH} {b o : Nat} {L : List α}
theorem Px.Rv.part_ (hg : ∀ a, (g a).length = m) (h0 : 0 < m) (r : Rv w0 h (some ⟨b, o, none⟩) (L.flatMap g)) {i : Nat} {x : α} (hx : L[i]? = some x) : Rv w0 h (some ⟨b, o + i * m, none⟩) (g x) := fun j u eu => by
  obtain ⟨h1, h2⟩ := zE2 g m hg L i x hx
  have hj : j < m := by rw [← hg x]; exact (List.getElem?_eq_some_iff.1 eu).1
  have e2 : (L.flatMap g)[i * m + j]? = some u := by rw [← h1, List.getElem?_take_of_lt hj, List.getElem?_drop] at eu; exact eu
  obtain ⟨b', o', h3, h4⟩ := r (i * m + j) u e2
  injection h3 with h3
  injection h3 with h3 h5
  subst h3; subst h5
  exact ⟨b, o + i * m, rfl, by rw [Nat.add_assoc]; exact h4⟩
theorem Px.Rv.addr_ (hg : ∀ a, (g a).length = m) (h0 : 0 < m) {A : Option Addr} (r : Rv w0 h A (L.flatMap g)) {i : Nat} {x : α} (hx : L[i]? = some x) : ∃ b o, A = some ⟨b, o, none⟩ :=
  r.addr (by have := (zE2 g m hg L i x hx).2; omega)
theorem Px.Rv.chunk (hg : ∀ a, (g a).length = m) (h0 : 0 < m) (r : Rv w0 h (some ⟨b, o, none⟩) (L.flatMap g)) (hl : Low w0 h) {i : Nat} {x : α} (hx : L[i]? = some x) : Px.rdN w0 h ⟨b, o + i * m, none⟩ m = some (g x) :=
  (r.part_ hg h0 hx).rdN hl (hg x) h0
end
theorem Px.Rv.text {w0 : World} {h : PH} {b o : Nat} {l : List (List UInt8)} (r : Rv w0 h (some ⟨b, o, none⟩) (l.map str)) (hl : Low w0 h) {i : Nat} {x : List UInt8} (hx : l[i]? = some x) : rd w0 h ⟨b, o + i, none⟩ = some (str x) := by
  rw [zAa]; exact r.get hl (j := i) (by rw [List.getElem?_map, hx]; rfl)
set_option maxRecDepth 20000 in
set_option maxHeartbeats 2000000 in
theorem zDi (w0 : World) (h : PH) (A B : Option Addr) (c d : Nat) (x y : List (List UInt8)) (hx : Rv w0 h A (x.map str)) (hy : Rv w0 h B (y.map str)) (hc : x.length ≤ c) (hd : y.length ≤ d) (hm : x.length ≤ 1000000000) : PCalls Try.prog w0 16 [.slice A x.length c, .slice B y.length d] h fun r h' => r = .bool (decide (x = y)) ∧ h' = h := by
  refine PCalls_low fun hl => ?_
  refine zAp Try.func16 (by kernel_rfl) rfl _ Try.ntmps16 (by kernel_rfl) (by kernel_rfl) _ Try.results16 ?_
  by_cases hlen : x.length = y.length
  rotate_left
  · have e1 : decide (¬ (x.length : Int) = (y.length : Int)) = true := decide_eq_true (by omega)
    have hne : decide (x = y) = false := decide_eq_false fun e => hlen (by rw [e])
    rw [hne]
    simp -dsimp -implicitDefEqProofs (disch := first | omega | assumption | (simp only [Option.isSome_some,Qt0]; done) | (simp only [List.length_cons,List.length_nil,List.length_append,Int.toNat_natCast] <;> omega) | fail) only [Nat.reduceLT,Nat.reduceLeDiff,Nat.reduceEqDiff,↓reduceIte,Int.reduceLT,Int.reduceLE,Int.reduceToNat,Int.reduceEq,Int.reduceNe,Nat.reduceAdd,Int.reduceAdd,Int.reduceSub,Int.reduceMul,Nat.reduceMul,Qp0,Qp1,Ql0,Qe0,e1]
    exact ⟨_, PH.Le.refl _, by first | rfl | trivial, rfl⟩
  have e1 : decide (¬ (x.length : Int) = (y.length : Int)) = false := decide_eq_false (by omega)
  simp -dsimp -implicitDefEqProofs (disch := first | omega | assumption | (simp only [Option.isSome_some,Qt0]; done) | (simp only [List.length_cons,List.length_nil,List.length_append,Int.toNat_natCast] <;> omega) | fail) only [Nat.reduceLT,Nat.reduceLeDiff,Nat.reduceEqDiff,↓reduceIte,Int.reduceLT,Int.reduceLE,Int.reduceToNat,Int.reduceEq,Int.reduceNe,Nat.reduceAdd,Int.reduceAdd,Int.reduceSub,Int.reduceMul,Nat.reduceMul,Qp0,Qp1,Ql0,Qe0,e1]
  refine zBs (fun n f h' => ∃ i : Nat, n + i = x.length ∧ f 0 = some (.slice A x.length c) ∧ f 1 = some (.slice B y.length d) ∧ f 5 = some (.int .i64 i) ∧ (∀ j, j < i → x[j]? = y[j]?) ∧ h' = h) (by kernel_rfl) x.length ⟨0, by omega, ?_, ?_, ?_, fun j hj => by omega, rfl⟩ ?_
  · simp -dsimp -implicitDefEqProofs (disch := first | omega | assumption | (simp only [Option.isSome_some,Qt0]; done) | (simp only [List.length_cons,List.length_nil,List.length_append,Int.toNat_natCast] <;> omega) | fail) only [Nat.reduceLT,Nat.reduceLeDiff,Nat.reduceEqDiff,↓reduceIte,Int.reduceLT,Int.reduceLE,Int.reduceToNat,Int.reduceEq,Int.reduceNe,Nat.reduceAdd,Int.reduceAdd,Int.reduceSub,Int.reduceMul,Nat.reduceMul,Qp0,Qp1,Ql0,Qe0]
  · simp -dsimp -implicitDefEqProofs (disch := first | omega | assumption | (simp only [Option.isSome_some,Qt0]; done) | (simp only [List.length_cons,List.length_nil,List.length_append,Int.toNat_natCast] <;> omega) | fail) only [Nat.reduceLT,Nat.reduceLeDiff,Nat.reduceEqDiff,↓reduceIte,Int.reduceLT,Int.reduceLE,Int.reduceToNat,Int.reduceEq,Int.reduceNe,Nat.reduceAdd,Int.reduceAdd,Int.reduceSub,Int.reduceMul,Nat.reduceMul,Qp0,Qp1,Ql0,Qe0]
  · simp -dsimp -implicitDefEqProofs (disch := first | omega | assumption | (simp only [Option.isSome_some,Qt0]; done) | (simp only [List.length_cons,List.length_nil,List.length_append,Int.toNat_natCast] <;> omega) | fail) only [Nat.reduceLT,Nat.reduceLeDiff,Nat.reduceEqDiff,↓reduceIte,Int.reduceLT,Int.reduceLE,Int.reduceToNat,Int.reduceEq,Int.reduceNe,Nat.reduceAdd,Int.reduceAdd,Int.reduceSub,Int.reduceMul,Nat.reduceMul,Qp0,Qp1,Ql0,Qe0]
    try rfl
  rintro n f h' ⟨i, hni, f0, f1, f5, hall, rfl⟩
  by_cases hi : i < x.length
  rotate_left
  · have e2 : decide ((i : Int) < (x.length : Int)) = false := decide_eq_false (by omega)
    have heq : decide (x = y) = true := decide_eq_true (List.ext_getElem? fun j => by
      by_cases hj : j < i
      · exact hall j hj
      · rw [List.getElem?_eq_none (by omega), List.getElem?_eq_none (by omega)])
    rw [heq]
    simp -dsimp -implicitDefEqProofs (disch := first | omega | assumption | (simp only [Option.isSome_some,Qt0]; done) | (simp only [List.length_cons,List.length_nil,List.length_append,Int.toNat_natCast] <;> omega) | fail) only [Nat.reduceLT,Nat.reduceLeDiff,Nat.reduceEqDiff,↓reduceIte,Int.reduceLT,Int.reduceLE,Int.reduceToNat,Int.reduceEq,Int.reduceNe,Nat.reduceAdd,Int.reduceAdd,Int.reduceSub,Int.reduceMul,Nat.reduceMul,Qp0,Qp1,Ql0,Qe0,f0,f1,f5,e2]
    exact ⟨_, PH.Le.refl _, by first | rfl | trivial, rfl⟩
  have e2 : decide ((i : Int) < (x.length : Int)) = true := decide_eq_true (by omega)
  obtain ⟨u, hp⟩ : ∃ z, x[i]? = some z := ⟨_, List.getElem?_eq_getElem hi⟩
  obtain ⟨v, hq⟩ : ∃ z, y[i]? = some z := ⟨_, List.getElem?_eq_getElem (by omega)⟩
  obtain ⟨b, o, rfl⟩ := hx.addr (by rw [List.length_map]; omega)
  obtain ⟨b', o', rfl⟩ := hy.addr (by rw [List.length_map]; omega)
  have hgx := hx.text hl hp
  have hgy := hy.text hl hq
  have hT : (i : Int).toNat = i := Int.toNat_natCast i
  by_cases he : u = v
  · subst he
    have e3 : decide (¬ u = u) = false := by simp
    simp -dsimp -implicitDefEqProofs (disch := first | omega | assumption | (simp only [Option.isSome_some,Qt0]; done) | (simp only [List.length_cons,List.length_nil,List.length_append,Int.toNat_natCast] <;> omega) | fail) only [Nat.reduceLT,Nat.reduceLeDiff,Nat.reduceEqDiff,↓reduceIte,Int.reduceLT,Int.reduceLE,Int.reduceToNat,Int.reduceEq,Int.reduceNe,Nat.reduceAdd,Int.reduceAdd,Int.reduceSub,Int.reduceMul,Nat.reduceMul,Qp0,Qp1,Ql0,Qe0,f0,f1,f5,e2]
    refine zA3 9 _ (by kernel_rfl) (by kernel_rfl) (by kernel_rfl) (by kernel_rfl) (by kernel_rfl) (fun c f h hq => by simp only [zAy, zAv, zAw, zAu, zAx] at hq) (PH.Le.refl _).sub ?_
    simp -dsimp -implicitDefEqProofs (disch := first | omega | assumption | (simp only [Option.isSome_some,Qt0]; done) | (simp only [List.length_cons,List.length_nil,List.length_append,Int.toNat_natCast] <;> omega) | fail) only [Nat.reduceLT,Nat.reduceLeDiff,Nat.reduceEqDiff,↓reduceIte,Int.reduceLT,Int.reduceLE,Int.reduceToNat,Int.reduceEq,Int.reduceNe,Nat.reduceAdd,Int.reduceAdd,Int.reduceSub,Int.reduceMul,Nat.reduceMul,Qp0,Qp1,Ql0,Qe0,f0,f1,f5,hgx,hgy,hT,e3]
    refine ⟨n - 1, _, by omega, PH.Le.refl _, i + 1, by omega, by trivial, by trivial, by simp, fun j hj => ?_, rfl⟩
    by_cases hji : j = i
    · subst hji; rw [hp, hq]
    · exact hall j (by omega)
  · have hne : decide (x = y) = false := decide_eq_false fun e => by
      rw [e, hq] at hp
      injection hp with hp
      exact he hp.symm
    have e3 : decide (¬ u = v) = true := decide_eq_true he
    rw [hne]
    simp -dsimp -implicitDefEqProofs (disch := first | omega | assumption | (simp only [Option.isSome_some,Qt0]; done) | (simp only [List.length_cons,List.length_nil,List.length_append,Int.toNat_natCast] <;> omega) | fail) only [Nat.reduceLT,Nat.reduceLeDiff,Nat.reduceEqDiff,↓reduceIte,Int.reduceLT,Int.reduceLE,Int.reduceToNat,Int.reduceEq,Int.reduceNe,Nat.reduceAdd,Int.reduceAdd,Int.reduceSub,Int.reduceMul,Nat.reduceMul,Qp0,Qp1,Ql0,Qe0,f0,f1,f5,e2]
    refine zA3 9 _ (by kernel_rfl) (by kernel_rfl) (by kernel_rfl) (by kernel_rfl) (by kernel_rfl) (fun c f h hq => by simp only [zAy, zAv, zAw, zAu, zAx] at hq) (PH.Le.refl _).sub ?_
    simp -dsimp -implicitDefEqProofs (disch := first | omega | assumption | (simp only [Option.isSome_some,Qt0]; done) | (simp only [List.length_cons,List.length_nil,List.length_append,Int.toNat_natCast] <;> omega) | fail) only [Nat.reduceLT,Nat.reduceLeDiff,Nat.reduceEqDiff,↓reduceIte,Int.reduceLT,Int.reduceLE,Int.reduceToNat,Int.reduceEq,Int.reduceNe,Nat.reduceAdd,Int.reduceAdd,Int.reduceSub,Int.reduceMul,Nat.reduceMul,Qp0,Qp1,Ql0,Qe0,f0,f1,f5,hgx,hgy,hT,e3]
    exact ⟨_, PH.Le.refl _, by first | rfl | trivial, rfl⟩
structure Oj where
  K : Int
  L : List (List UInt8)
  D : Bool
  N : Int
  M : Int
  S : List UInt8
abbrev Ojp := Oj × Option Addr × Nat
def ojL (p : Ojp) : List Value := [.int .i64 p.1.K, .slice p.2.1 p.1.L.length p.2.2, .bool p.1.D, .int .i64 p.1.N, .int .i64 p.1.M, str p.1.S]
theorem zEd (p : Ojp) : (ojL p).length = 6 := rfl
theorem ojL_one (p : Ojp) : allOne (ojL p) := zC7 _ rfl
def GoodO (w0 : World) (h : PH) (p : Ojp) : Prop := p.1.L.length ≤ p.2.2 ∧ Rv w0 h p.2.1 (p.1.L.map str)
theorem GoodO.more {w0 : World} {h h' : PH} {p : Ojp} (g : GoodO w0 h p) (l : PH.Le h h') : GoodO w0 h' p := ⟨g.1, g.2.more l⟩
def Scr (w0 : World) (h : PH) (A : Option Addr) (z : List Ojp) : Prop := Rv w0 h A (z.flatMap ojL) ∧ ∀ p ∈ z, GoodO w0 h p
theorem Scr.more {w0 : World} {h h' : PH} {A : Option Addr} {z : List Ojp} (s : Scr w0 h A z) (l : PH.Le h h') : Scr w0 h' A z := ⟨s.1.more l, fun p hp => (s.2 p hp).more l⟩
def tot (l : List (List UInt8)) : Nat := (l.map List.length).sum
def FitO (p : Ojp) : Prop := p.1.L.length ≤ 450 ∧ tot p.1.L ≤ 6000
def GRS (z : List Ojp) (r : Value) : Prop := ∃ b : Bool, r = .bool b ∧ (b = false → z.length ≤ 40 ∧ ∀ p ∈ z, FitO p)
theorem tot_take {l : List (List UInt8)} {i : Nat} {x : List UInt8} (h : l[i]? = some x) : tot (l.take (i + 1)) = tot (l.take i) + x.length := by
  have h2 : l.take (i + 1) = l.take i ++ [x] := by rw [List.take_add_one, h]; rfl
  rw [h2]
  simp [tot]
set_option maxRecDepth 20000 in
set_option maxHeartbeats 4000000 in
theorem great10_any (A : Option Addr) (c : Nat) (z : List Ojp) (w0 : World) (h : PH) (hz : Scr w0 h A z) (hc : z.length ≤ c) : PCalls Try.prog w0 8 [.slice A z.length c] h fun r h' => GRS z r ∧ PH.Le h h' := by
  refine zAp Try.func8 (by kernel_rfl) rfl _ Try.ntmps8 (by kernel_rfl) (by kernel_rfl) _ Try.results8 ?_
  have hyes : ∀ hh, PH.Le h hh → GRS z (.bool true) ∧ PH.Le h hh := fun hh l => ⟨⟨true, rfl, fun e => by cases e⟩, l⟩
  obtain ⟨b1, hb1⟩ : ∃ b, decide ((z.length : Int) > 40) = b := ⟨_, rfl⟩
  cases b1
  rotate_left
  · simp -dsimp -implicitDefEqProofs (disch := first | omega | assumption | (simp only [Option.isSome_some,Qt0]; done) | (simp only [List.length_cons,List.length_nil,List.length_append,Int.toNat_natCast] <;> omega) | fail) only [Nat.reduceLT,Nat.reduceLeDiff,Nat.reduceEqDiff,↓reduceIte,Int.reduceLT,Int.reduceLE,Int.reduceToNat,Int.reduceEq,Int.reduceNe,Nat.reduceAdd,Int.reduceAdd,Int.reduceSub,Int.reduceMul,Nat.reduceMul,Qp0,Qp1,Ql0,Qe0,hb1]
    exact ⟨_, PH.Le.refl _, hyes _ (PH.Le.refl _)⟩
  have t1 := of_decide_eq_false hb1
  simp -dsimp -implicitDefEqProofs (disch := first | omega | assumption | (simp only [Option.isSome_some,Qt0]; done) | (simp only [List.length_cons,List.length_nil,List.length_append,Int.toNat_natCast] <;> omega) | fail) only [Nat.reduceLT,Nat.reduceLeDiff,Nat.reduceEqDiff,↓reduceIte,Int.reduceLT,Int.reduceLE,Int.reduceToNat,Int.reduceEq,Int.reduceNe,Nat.reduceAdd,Int.reduceAdd,Int.reduceSub,Int.reduceMul,Nat.reduceMul,Qp0,Qp1,Ql0,Qe0,hb1]
  refine zB3 (fun n f h' => ∃ i : Nat, n + i = z.length ∧ f 11 = some (.slice A z.length c) ∧ f 12 = some (.int .i64 z.length) ∧ f 13 = some (.int .i64 i) ∧ PH.Le h h' ∧ (∀ j y, j < i → z[j]? = some y → FitO y)) (by kernel_rfl) z.length ⟨0, by omega, ?_, ?_, ?_, PH.Le.refl _, fun j y hj => by omega⟩ ?_
  · simp -dsimp -implicitDefEqProofs (disch := first | omega | assumption | (simp only [Option.isSome_some,Qt0]; done) | (simp only [List.length_cons,List.length_nil,List.length_append,Int.toNat_natCast] <;> omega) | fail) only [Nat.reduceLT,Nat.reduceLeDiff,Nat.reduceEqDiff,↓reduceIte,Int.reduceLT,Int.reduceLE,Int.reduceToNat,Int.reduceEq,Int.reduceNe,Nat.reduceAdd,Int.reduceAdd,Int.reduceSub,Int.reduceMul,Nat.reduceMul,Qp0,Qp1,Ql0,Qe0]
  · simp -dsimp -implicitDefEqProofs (disch := first | omega | assumption | (simp only [Option.isSome_some,Qt0]; done) | (simp only [List.length_cons,List.length_nil,List.length_append,Int.toNat_natCast] <;> omega) | fail) only [Nat.reduceLT,Nat.reduceLeDiff,Nat.reduceEqDiff,↓reduceIte,Int.reduceLT,Int.reduceLE,Int.reduceToNat,Int.reduceEq,Int.reduceNe,Nat.reduceAdd,Int.reduceAdd,Int.reduceSub,Int.reduceMul,Nat.reduceMul,Qp0,Qp1,Ql0,Qe0]
  · simp -dsimp -implicitDefEqProofs (disch := first | omega | assumption | (simp only [Option.isSome_some,Qt0]; done) | (simp only [List.length_cons,List.length_nil,List.length_append,Int.toNat_natCast] <;> omega) | fail) only [Nat.reduceLT,Nat.reduceLeDiff,Nat.reduceEqDiff,↓reduceIte,Int.reduceLT,Int.reduceLE,Int.reduceToNat,Int.reduceEq,Int.reduceNe,Nat.reduceAdd,Int.reduceAdd,Int.reduceSub,Int.reduceMul,Nat.reduceMul,Qp0,Qp1,Ql0,Qe0]
    try rfl
  rintro n f h' ⟨i, hni, f11, f12, f13, hl', hall⟩ hlow'
  by_cases hi : i < z.length
  rotate_left
  · have e2 : decide ((i : Int) < (z.length : Int)) = false := decide_eq_false (by omega)
    simp -dsimp -implicitDefEqProofs (disch := first | omega | assumption | (simp only [Option.isSome_some,Qt0]; done) | (simp only [List.length_cons,List.length_nil,List.length_append,Int.toNat_natCast] <;> omega) | fail) only [Nat.reduceLT,Nat.reduceLeDiff,Nat.reduceEqDiff,↓reduceIte,Int.reduceLT,Int.reduceLE,Int.reduceToNat,Int.reduceEq,Int.reduceNe,Nat.reduceAdd,Int.reduceAdd,Int.reduceSub,Int.reduceMul,Nat.reduceMul,Qp0,Qp1,Ql0,Qe0,f11,f12,f13,e2]
    refine ⟨_, PH.Le.refl _, ⟨false, by first | rfl | trivial, fun _ => ⟨by omega, fun p hp => ?_⟩⟩, hl'⟩
    obtain ⟨j, hj, rfl⟩ := List.getElem_of_mem hp
    exact hall j _ (by omega) (List.getElem?_eq_getElem hj)
  have e2 : decide ((i : Int) < (z.length : Int)) = true := decide_eq_true (by omega)
  obtain ⟨p, hx⟩ : ∃ p, z[i]? = some p := ⟨_, List.getElem?_eq_getElem hi⟩
  obtain ⟨b, o, rfl⟩ := hz.1.addr_ zEd (by omega) hx
  have hrd := (hz.1.more hl').chunk zEd (by omega) hlow' hx
  have ha : allOne (ojL p) := ojL_one _
  obtain ⟨gc, gr⟩ := (hz.2 p (List.mem_of_getElem? hx))
  obtain ⟨⟨K, L, D, N, M, S⟩, B, cb⟩ := p
  unfold ojL at hrd ha
  simp only at hrd ha gc gr
  have hT : (i : Int).toNat = i := Int.toNat_natCast i
  simp -dsimp -implicitDefEqProofs (disch := first | omega | assumption | (simp only [Option.isSome_some,Qt0]; done) | (simp only [List.length_cons,List.length_nil,List.length_append,Int.toNat_natCast] <;> omega) | fail) only [Nat.reduceLT,Nat.reduceLeDiff,Nat.reduceEqDiff,↓reduceIte,Int.reduceLT,Int.reduceLE,Int.reduceToNat,Int.reduceEq,Int.reduceNe,Nat.reduceAdd,Int.reduceAdd,Int.reduceSub,Int.reduceMul,Nat.reduceMul,Qp0,Qp1,Ql0,Qe0,f11,f12,f13,e2,hrd]
  refine fun xb hxb => ?_
  obtain ⟨h1, hh1⟩ : ∃ h1, h'.new xb ⟨[.int .i64 K, .slice B L.length cb, .bool D, .int .i64 N, .int .i64 M, str S], 6⟩ = h1 := ⟨_, rfl⟩
  have hl1 : PH.Le h' h1 := by rw [← hh1]; exact (PH.Le.refl h').new _ _ hxb
  have hm1 : h1.m xb = some ⟨[.int .i64 K, .slice B L.length cb, .bool D, .int .i64 N, .int .i64 M, str S], 6⟩ := by rw [← hh1, PH.new_m, if_pos rfl]
  have hlq1 := hl'.trans hl1
  obtain ⟨d1, hd1⟩ : ∃ b, decide ((L.length : Int) > 450) = b := ⟨_, rfl⟩
  obtain ⟨d2, hd2⟩ : ∃ b, decide ((S.length : Int) > 3000) = b := ⟨_, rfl⟩
  cases d1
  rotate_left
  · simp -dsimp -implicitDefEqProofs (disch := first | omega | assumption | (simp only [Option.isSome_some,Qt0]; done) | (simp only [List.length_cons,List.length_nil,List.length_append,Int.toNat_natCast] <;> omega) | fail) only [Nat.reduceLT,Nat.reduceLeDiff,Nat.reduceEqDiff,↓reduceIte,Int.reduceLT,Int.reduceLE,Int.reduceToNat,Int.reduceEq,Int.reduceNe,Nat.reduceAdd,Int.reduceAdd,Int.reduceSub,Int.reduceMul,Nat.reduceMul,Qp0,Qp1,Ql0,Qe0,f11,f12,f13,List.set_cons_zero,List.set_cons_succ,List.take_zero,List.drop_succ_cons,List.drop_zero,List.drop_nil,List.nil_append,List.append_nil,List.take_succ_cons,ite_true,PH.new_new,hh1,zAa,zAb,hm1,hd1]
    exact ⟨_, PH.Le.refl _, hyes _ hlq1⟩
  cases d2
  rotate_left
  · simp -dsimp -implicitDefEqProofs (disch := first | omega | assumption | (simp only [Option.isSome_some,Qt0]; done) | (simp only [List.length_cons,List.length_nil,List.length_append,Int.toNat_natCast] <;> omega) | fail) only [Nat.reduceLT,Nat.reduceLeDiff,Nat.reduceEqDiff,↓reduceIte,Int.reduceLT,Int.reduceLE,Int.reduceToNat,Int.reduceEq,Int.reduceNe,Nat.reduceAdd,Int.reduceAdd,Int.reduceSub,Int.reduceMul,Nat.reduceMul,Qp0,Qp1,Ql0,Qe0,f11,f12,f13,List.set_cons_zero,List.set_cons_succ,List.take_zero,List.drop_succ_cons,List.drop_zero,List.drop_nil,List.nil_append,List.append_nil,List.take_succ_cons,ite_true,PH.new_new,hh1,zAa,zAb,hm1,hd1,hd2]
    exact ⟨_, PH.Le.refl _, hyes _ hlq1⟩
  have u1 := of_decide_eq_false hd1
  simp -dsimp -implicitDefEqProofs (disch := first | omega | assumption | (simp only [Option.isSome_some,Qt0]; done) | (simp only [List.length_cons,List.length_nil,List.length_append,Int.toNat_natCast] <;> omega) | fail) only [Nat.reduceLT,Nat.reduceLeDiff,Nat.reduceEqDiff,↓reduceIte,Int.reduceLT,Int.reduceLE,Int.reduceToNat,Int.reduceEq,Int.reduceNe,Nat.reduceAdd,Int.reduceAdd,Int.reduceSub,Int.reduceMul,Nat.reduceMul,Qp0,Qp1,Ql0,Qe0,f11,f12,f13,List.set_cons_zero,List.set_cons_succ,List.take_zero,List.drop_succ_cons,List.drop_zero,List.drop_nil,List.nil_append,List.append_nil,List.take_succ_cons,ite_true,PH.new_new,hh1,zAa,zAb,hm1,hd1,hd2]
  refine zB3 (fun n2 f h2 => ∃ k : Nat, n2 + k = L.length ∧ f 11 = some (.slice (some ⟨b, o, none⟩) z.length c) ∧ f 12 = some (.int .i64 z.length) ∧ f 13 = some (.int .i64 i) ∧ f 28 = some (.slice B L.length cb) ∧ f 29 = some (.int .i64 L.length) ∧ f 30 = some (.int .i64 k) ∧ f 5 = some (.int .i64 (tot (L.take k))) ∧ tot (L.take k) ≤ 6000 ∧ PH.Le h h2) (by kernel_rfl) L.length ⟨0, by omega, ?_, ?_, ?_, ?_, ?_, ?_, ?_, ?_, hlq1⟩ ?_
  · simp -dsimp -implicitDefEqProofs (disch := first | omega | assumption | (simp only [Option.isSome_some,Qt0]; done) | (simp only [List.length_cons,List.length_nil,List.length_append,Int.toNat_natCast] <;> omega) | fail) only [Nat.reduceLT,Nat.reduceLeDiff,Nat.reduceEqDiff,↓reduceIte,Int.reduceLT,Int.reduceLE,Int.reduceToNat,Int.reduceEq,Int.reduceNe,Nat.reduceAdd,Int.reduceAdd,Int.reduceSub,Int.reduceMul,Nat.reduceMul,Qp0,Qp1,Ql0,Qe0,f11]
  · simp -dsimp -implicitDefEqProofs (disch := first | omega | assumption | (simp only [Option.isSome_some,Qt0]; done) | (simp only [List.length_cons,List.length_nil,List.length_append,Int.toNat_natCast] <;> omega) | fail) only [Nat.reduceLT,Nat.reduceLeDiff,Nat.reduceEqDiff,↓reduceIte,Int.reduceLT,Int.reduceLE,Int.reduceToNat,Int.reduceEq,Int.reduceNe,Nat.reduceAdd,Int.reduceAdd,Int.reduceSub,Int.reduceMul,Nat.reduceMul,Qp0,Qp1,Ql0,Qe0,f12]
  · simp -dsimp -implicitDefEqProofs (disch := first | omega | assumption | (simp only [Option.isSome_some,Qt0]; done) | (simp only [List.length_cons,List.length_nil,List.length_append,Int.toNat_natCast] <;> omega) | fail) only [Nat.reduceLT,Nat.reduceLeDiff,Nat.reduceEqDiff,↓reduceIte,Int.reduceLT,Int.reduceLE,Int.reduceToNat,Int.reduceEq,Int.reduceNe,Nat.reduceAdd,Int.reduceAdd,Int.reduceSub,Int.reduceMul,Nat.reduceMul,Qp0,Qp1,Ql0,Qe0,f13]
  · simp -dsimp -implicitDefEqProofs (disch := first | omega | assumption | (simp only [Option.isSome_some,Qt0]; done) | (simp only [List.length_cons,List.length_nil,List.length_append,Int.toNat_natCast] <;> omega) | fail) only [Nat.reduceLT,Nat.reduceLeDiff,Nat.reduceEqDiff,↓reduceIte,Int.reduceLT,Int.reduceLE,Int.reduceToNat,Int.reduceEq,Int.reduceNe,Nat.reduceAdd,Int.reduceAdd,Int.reduceSub,Int.reduceMul,Nat.reduceMul,Qp0,Qp1,Ql0,Qe0]
  · simp -dsimp -implicitDefEqProofs (disch := first | omega | assumption | (simp only [Option.isSome_some,Qt0]; done) | (simp only [List.length_cons,List.length_nil,List.length_append,Int.toNat_natCast] <;> omega) | fail) only [Nat.reduceLT,Nat.reduceLeDiff,Nat.reduceEqDiff,↓reduceIte,Int.reduceLT,Int.reduceLE,Int.reduceToNat,Int.reduceEq,Int.reduceNe,Nat.reduceAdd,Int.reduceAdd,Int.reduceSub,Int.reduceMul,Nat.reduceMul,Qp0,Qp1,Ql0,Qe0]
  · simp -dsimp -implicitDefEqProofs (disch := first | omega | assumption | (simp only [Option.isSome_some,Qt0]; done) | (simp only [List.length_cons,List.length_nil,List.length_append,Int.toNat_natCast] <;> omega) | fail) only [Nat.reduceLT,Nat.reduceLeDiff,Nat.reduceEqDiff,↓reduceIte,Int.reduceLT,Int.reduceLE,Int.reduceToNat,Int.reduceEq,Int.reduceNe,Nat.reduceAdd,Int.reduceAdd,Int.reduceSub,Int.reduceMul,Nat.reduceMul,Qp0,Qp1,Ql0,Qe0]
    try rfl
  · simp -dsimp -implicitDefEqProofs (disch := first | omega | assumption | (simp only [Option.isSome_some,Qt0]; done) | (simp only [List.length_cons,List.length_nil,List.length_append,Int.toNat_natCast] <;> omega) | fail) only [Nat.reduceLT,Nat.reduceLeDiff,Nat.reduceEqDiff,↓reduceIte,Int.reduceLT,Int.reduceLE,Int.reduceToNat,Int.reduceEq,Int.reduceNe,Nat.reduceAdd,Int.reduceAdd,Int.reduceSub,Int.reduceMul,Nat.reduceMul,Qp0,Qp1,Ql0,Qe0]
    try rfl
  · show 0 ≤ 6000; omega
  rintro n2 f2 h2 ⟨k, hnk, g11, g12, g13, g28, g29, g30, g5, htot, hl2⟩ hlow2
  by_cases hk : k < L.length
  rotate_left
  · have e3 : decide ((k : Int) < (L.length : Int)) = false := decide_eq_false (by omega)
    simp -dsimp -implicitDefEqProofs (disch := first | omega | assumption | (simp only [Option.isSome_some,Qt0]; done) | (simp only [List.length_cons,List.length_nil,List.length_append,Int.toNat_natCast] <;> omega) | fail) only [Nat.reduceLT,Nat.reduceLeDiff,Nat.reduceEqDiff,↓reduceIte,Int.reduceLT,Int.reduceLE,Int.reduceToNat,Int.reduceEq,Int.reduceNe,Nat.reduceAdd,Int.reduceAdd,Int.reduceSub,Int.reduceMul,Nat.reduceMul,Qp0,Qp1,Ql0,Qe0,g11,g12,g13,g28,g29,g30,e3]
    refine ⟨n - 1, _, by omega, PH.Le.refl _, i + 1, by omega, by trivial, by trivial, by simp, hl2, fun j y hj hy => ?_⟩
    by_cases hji : j = i
    · subst hji
      rw [hx] at hy
      obtain rfl := Option.some.inj hy
      rw [List.take_of_length_le (by omega)] at htot
      exact ⟨by show L.length ≤ 450; omega, htot⟩
    · exact hall j y (by omega) hy
  have e3 : decide ((k : Int) < (L.length : Int)) = true := decide_eq_true (by omega)
  obtain ⟨t, ht⟩ : ∃ t, L[k]? = some t := ⟨_, List.getElem?_eq_getElem hk⟩
  obtain ⟨b', o', rfl⟩ := gr.addr (by rw [List.length_map]; omega)
  have hgx := (gr.more hl2).text hlow2 ht
  have hT2 : (k : Int).toNat = k := Int.toNat_natCast k
  have htt := tot_take ht
  obtain ⟨d3, hd3⟩ : ∃ b, decide ((t.length : Int) > 5000) = b := ⟨_, rfl⟩
  cases d3
  rotate_left
  · simp -dsimp -implicitDefEqProofs (disch := first | omega | assumption | (simp only [Option.isSome_some,Qt0]; done) | (simp only [List.length_cons,List.length_nil,List.length_append,Int.toNat_natCast] <;> omega) | fail) only [Nat.reduceLT,Nat.reduceLeDiff,Nat.reduceEqDiff,↓reduceIte,Int.reduceLT,Int.reduceLE,Int.reduceToNat,Int.reduceEq,Int.reduceNe,Nat.reduceAdd,Int.reduceAdd,Int.reduceSub,Int.reduceMul,Nat.reduceMul,Qp0,Qp1,Ql0,Qe0,g11,g12,g13,g28,g29,g30,g5,e3,hT2,hgx,hd3]
    exact ⟨_, PH.Le.refl _, hyes _ hl2⟩
  have u3 := of_decide_eq_false hd3
  obtain ⟨d4, hd4⟩ : ∃ b, decide ((tot (L.take k) : Int) + (t.length : Int) > 6000) = b := ⟨_, rfl⟩
  cases d4
  rotate_left
  · simp -dsimp -implicitDefEqProofs (disch := first | omega | assumption | (simp only [Option.isSome_some,Qt0]; done) | (simp only [List.length_cons,List.length_nil,List.length_append,Int.toNat_natCast] <;> omega) | fail) only [Nat.reduceLT,Nat.reduceLeDiff,Nat.reduceEqDiff,↓reduceIte,Int.reduceLT,Int.reduceLE,Int.reduceToNat,Int.reduceEq,Int.reduceNe,Nat.reduceAdd,Int.reduceAdd,Int.reduceSub,Int.reduceMul,Nat.reduceMul,Qp0,Qp1,Ql0,Qe0,g11,g12,g13,g28,g29,g30,g5,e3,hT2,hgx,hd3,hd4]
    exact ⟨_, PH.Le.refl _, hyes _ hl2⟩
  have u4 := of_decide_eq_false hd4
  simp -dsimp -implicitDefEqProofs (disch := first | omega | assumption | (simp only [Option.isSome_some,Qt0]; done) | (simp only [List.length_cons,List.length_nil,List.length_append,Int.toNat_natCast] <;> omega) | fail) only [Nat.reduceLT,Nat.reduceLeDiff,Nat.reduceEqDiff,↓reduceIte,Int.reduceLT,Int.reduceLE,Int.reduceToNat,Int.reduceEq,Int.reduceNe,Nat.reduceAdd,Int.reduceAdd,Int.reduceSub,Int.reduceMul,Nat.reduceMul,Qp0,Qp1,Ql0,Qe0,g11,g12,g13,g28,g29,g30,g5,e3,hT2,hgx,hd3,hd4]
  exact ⟨n2 - 1, _, by omega, PH.Le.refl _, k + 1, by omega, by trivial, by trivial, by trivial, by trivial, by trivial, by simp, by rw [htt]; simp, by omega, hl2⟩
end Go.Proofs.Ytblikpbaeippaaa


namespace Go.Proofs.Ytblikpbaeippaaa
set_option linter.unusedVariables false
set_option linter.unusedSimpArgs false
open Go.RowKit Px Wr
theorem Does_low {P : Program} {w0 : World} {h : PH} {m : Sem Value} {K : Value → PH → Prop} (hd : Does P w0 h m (fun v h' => Low w0 h' → K v h')) : Does P w0 h m K := fun w s => by
  obtain ⟨v, w', h', e, k, s'⟩ := hd w s
  exact ⟨v, w', h', e, k (zBy s'), s'⟩
theorem flat_tot {ps : List Pt} (h : AllOk ps) : (flatP ps).length ≤ ps.length * 93 + 2 * tot (ps.map (·.t)) := by
  induction ps with
  | nil => simp [flatP, tot]
  | cons x l ih =>
    have h1 := zB1 (h x List.mem_cons_self)
    have h2 := ih (fun y hy => h y (List.mem_cons_of_mem _ hy))
    have e1 : flatP (x :: l) = sealP x ++ flatP l := by simp [flatP]
    have e2 : tot ((x :: l).map (·.t)) = x.t.length + tot (l.map (·.t)) := by simp [tot]
    rw [e1, e2, List.length_append, List.length_cons]
    omega
theorem recP_t (g p : Nat) (l : List (List UInt8)) : (recP g p l).map (·.t) = l := by
  unfold recP; rw [List.map_map]; exact List.map_id _
theorem put_size {l : List (List UInt8)} {g : Nat} (h1 : 1 ≤ g) (h2 : g ≤ 1099511627776) (hl : l.length ≤ 450) (ht : tot l ≤ 6000) : (∀ t ∈ l, t.length ≤ 4096) → l.length ≤ 400 → ∀ p, p ≤ 1048576 → (flatP (recP g p l)).length ≤ 200000 := fun h4 _ p hp => by
  have := flat_tot (zCc (g := g) (p := p) (l := l) h1 h2 (by omega) h4)
  rw [zB7, recP_t] at this
  omega
theorem start_size {l : List (List UInt8)} {g : Nat} (hl : l.length ≤ 450) (ht : tot l ≤ 6000) : (∀ t ∈ l, t.length ≤ 4096) → g < 1099511627776 → ∀ p, p ≤ 1048576 → (flatP (begP (g + 1) p l)).length ≤ 200000 := fun h4 hg p hp => by
  have := flat_tot (begP_ok (g := g + 1) (p := p) (l := l) (by omega) (by omega) (by omega) h4)
  have e : tot ((begP (g + 1) p l).map (·.t)) = tot l := by
    unfold begP
    rw [List.map_cons, List.map_append, recP_t]
    simp [tot]
  rw [zEr, e] at this
  omega
theorem D2.delIn {h0 h : PH} {a b x : Nat} {da db : Dk} {k : Bk} (hd : D2 h0 h a da b db) (hx : h0.m x = some k) : D2 (h0.del x) (h.del x) a da b db := by
  obtain ⟨A, c, B, e, h1, h2, h3, h4, h5, h6, h7⟩ := hd.cells
  have hn : ∀ y, h0.m y = none → ¬ y = x ∧ (h0.del x).m y = none := fun y q => by
    have r : ¬ y = x := fun r => by rw [r, hx] at q; cases q
    exact ⟨r, by rw [PH.del_m, if_neg r]; exact q⟩
  have hs : ∀ y, ¬ y = x → (h.del x).m y = h.m y := fun y r => by rw [PH.del_m, if_neg r]
  refine ⟨hd.top, fun y j q => ?_, hd.ne, (hn _ hd.lowa).2, (hn _ hd.lowb).2, A, c, B, e, by rw [hs _ (hn _ hd.lowa).1]; exact h1, h2.same fun y q => hs _ (hn _ (h5 y q).1).1, by rw [hs _ (hn _ hd.lowb).1]; exact h3, h4.same fun y q => hs _ (hn _ (h6 y q).1).1, fun y q => ⟨(hn _ (h5 y q).1).2, (h5 y q).2⟩, fun y q => ⟨(hn _ (h6 y q).1).2, (h6 y q).2⟩, h7⟩
  rw [PH.del_m] at q ⊢
  by_cases r : y = x
  · rw [if_pos r] at q; cases q
  · rw [if_neg r] at q ⊢; exact hd.same y j q
theorem D2.stays {h0 h h' : PH} {a b n m sz : Nat} {da db : Dk} {v v' : Value} {xs ys : List Value} (hd : D2 h0 h a da b db) (o : Own h0 sz v n xs) (s : Stays h h' v v') (o' : Own h' sz v' m ys) :
    ∃ h1, D2 h1 h' a da b db ∧ Own h1 sz v' m ys ∧ ∀ x k, h0.m x = some k → v.ownBlock ≠ some x → h1.m x = some k := by
  have fin : ∀ (hb hh : PH), D2 hb hh a da b db → PH.Le hh h' → hh.top = h.top → (∀ x k, h0.m x = some k → v.ownBlock ≠ some x → hb.m x = some k) → (∀ x k, v.ownBlock = some x → h'.m x = some k → hb.m x = some k) →
      ∃ h1, D2 h1 h' a da b db ∧ Own h1 sz v' m ys ∧ ∀ x k, h0.m x = some k → v.ownBlock ≠ some x → h1.m x = some k := fun hb hh hd2 hle ht k1 k2 => by
    obtain ⟨h1, z1, z2, z3, z4, z5⟩ := hd2.grow hle
    refine ⟨h1, z1, o'.at fun x k r1 r2 => ?_, fun x k r1 r2 => z2.m _ _ (k1 x k r1 r2)⟩
    rcases s.fresh x r1 with r3 | r3
    · exact z2.m _ _ (k2 x k r3 r2)
    · exact z5 x k (by omega) r2
  cases hv : v.ownBlock with
  | none =>
    rw [hv] at fin
    exact fin h0 h hd ⟨s.top, fun x k e => s.keep x k e (by rw [hv]; simp)⟩ rfl (fun x k r _ => r) (fun x k r => by cases r)
  | some x =>
    rw [hv] at fin
    have hxl : x < h.top := by have := o.block hv; have := hd.top; omega
    obtain ⟨k0, hk0⟩ : ∃ k, h0.m x = some k := by
      rcases o.2 with ⟨rfl, _⟩ | ⟨b, c, rfl, _, _, hb⟩
      · cases hv
      · injection hv with hv; subst hv; exact ⟨_, hb⟩
    cases hk : h'.m x with
    | none =>
      refine fin _ _ (hd.delIn hk0) ⟨s.top, fun y k e => ?_⟩ rfl (fun y k r1 r2 => ?_) (fun y k r1 r2 => ?_)
      · rw [PH.del_m] at e
        by_cases r : y = x
        · rw [if_pos r] at e; cases e
        · rw [if_neg r] at e; exact s.keep y k e (by rw [hv]; simpa using fun r2 => r r2.symm)
      · rw [PH.del_m, if_neg (fun r => r2 (by rw [r]))]; exact r1
      · injection r1 with r1; subst r1; rw [hk] at r2; cases r2
    | some k =>
      refine fin _ _ (hd.setIn hk0 k) ⟨?_, fun y kk e => ?_⟩ ?_ (fun y kk r1 r2 => ?_) (fun y kk r1 r2 => ?_)
      · simp only [PH.new_top]; have := s.top; omega
      · rw [PH.new_m] at e
        by_cases r : y = x
        · rw [if_pos r] at e; rw [r, hk]; exact e
        · rw [if_neg r] at e; exact s.keep y kk e (by rw [hv]; simpa using fun r2 => r r2.symm)
      · simp only [PH.new_top]; omega
      · rw [PH.new_m, if_neg (fun r => r2 (by rw [r]))]; exact r1
      · injection r1 with r1; subst r1; rw [PH.new_m, if_pos rfl]; rw [hk] at r2; exact r2
theorem JS.stays {h0 h h' : PH} {j a b n m sz g : Nat} {da db : Dk} {q : Bool} {v v' : Value} {xs ys : List Value} (hj : JS h0 h j a b da db g q) (o : Own h0 sz v n xs) (s : Stays h h' v v') (o' : Own h' sz v' m ys) :
    ∃ h1, JS h1 h' j a b da db g q ∧ Own h1 sz v' m ys ∧ ∀ x k, h0.m x = some k → v.ownBlock ≠ some x → h1.m x = some k := by
  have hjl := h.lt _ _ hj.cell
  have hvj : v.ownBlock ≠ some j := fun e => by
    rcases o.2 with ⟨rfl, _⟩ | ⟨b, c, rfl, _, _, hb⟩
    · cases e
    · injection e with e; rw [show b = j from e, hj.low] at hb; cases hb
  obtain ⟨h1, z1, z2, z3⟩ := hj.d2.stays (o.more (JS.low_le h0 hj.low _)) s o'
  have hJ := z3 j _ (by rw [PH.new_m, if_pos rfl]) hvj
  refine ⟨h1.del j, z1.js hJ, z2.at fun x k r1 r2 => ?_, fun x k r1 r2 => ?_⟩
  · rw [PH.del_m, if_neg]
    · exact r2
    · rintro rfl
      rcases s.fresh _ r1 with r | r
      · exact hvj r
      · omega
  · have hxj : x ≠ j := fun r => by rw [r, hj.low] at r1; cases r1
    rw [PH.del_m, if_neg hxj]
    exact z3 x k (by rw [PH.new_m, if_neg hxj]; exact r1) r2
end Go.Proofs.Ytblikpbaeippaaa


namespace Go.Proofs.Ytblikpbaeippaaa
set_option linter.unusedVariables false
set_option linter.unusedSimpArgs false
open Go.RowKit Px Wr
def MkOk (ps : List Pt) : Prop := (∃ x, ps.getLast? = some x ∧ x.k = 4) ∨ ∀ x ∈ ps, x.k ≠ 4
structure Gens (g : Nat) (l : List (List UInt8)) (ps : List Pt) : Prop where
  ok : AllOk ps
  ord : ordB ps = true
  gen : genP ps = g
  recs : recsP ps = l
  mko : MkOk ps
structure Stnd (d : Dk) (g : Nat) (l : List (List UInt8)) (ps : List Pt) : Prop where
  clean : Clean d (flatP ps)
  gens : Gens g l ps
theorem Pres.stnd {d : Dk} {g : Nat} {l : List (List UInt8)} {ps : List Pt} (p : Pres d g l ps) : Stnd d g l ps :=
  ⟨p.clean, p.ok, p.ord, p.gen, p.recs, .inl (by obtain ⟨ps0, rfl⟩ := p.last; exact ⟨_, List.getLast?_concat .., rfl⟩)⟩
theorem Gens.g1 {g : Nat} {l : List (List UInt8)} {ps : List Pt} (p : Gens g l ps) : 1 ≤ g ∧ g ≤ 1099511627776 := by
  have hk := p.ok; have ho := p.ord; have hg := p.gen
  cases ps with
  | nil => cases ho
  | cons x l =>
    have hx := hk.cons.1
    have h1 : x.k = 1 := by
      unfold ordB at ho
      by_cases h : x.k = 1
      · exact h
      · simp [h] at ho
    have h2 : genP (x :: l) = x.g := by simp [genP, h1]
    rw [← hg, h2]
    exact ⟨hx.g0, hx.g1⟩
theorem Gens.old {g g' : Nat} {l : List (List UInt8)} {ps : List Pt} (p : Gens g l ps) (h : g < g') : Old (flatP ps) g' := ⟨ps, Scan.full p.ok, zC5, fun _ => by rw [p.gen]; exact h⟩
def Rest (d : Dk) (l : List UInt8) : Prop := Good d ∧ d.l = l ∧ d.safe = (l.length : Nat)
theorem Clean.rest {d : Dk} {l : List UInt8} (c : Clean d l) : Rest d l := ⟨c.good, c.txt, c.safe⟩
theorem Rest.crash {d : Dk} {l : List UInt8} (c : Rest d l) (k : Int) (mask : List UInt8) : Clean (d.crash k mask) l := zFu c.1 c.2.1 c.2.2 k mask
def Top (d : Dk) (g : Nat) (F : List (List UInt8) → Prop) : Prop := ∃ t ps, Clean d t ∧ Scan t ps ∧ ¬ Corrupt t (flatP ps).length ∧ ordB ps = true ∧ genP ps = g ∧
  ∀ d' e zs, TailR d ps g d' e zs → e = none ∧ F (recsP zs) ∧ ∃ qs, Stnd d' g (recsP zs) qs
def Low' (d : Dk) (g : Nat) : Prop := ∃ s, Clean d s ∧ Old s g
theorem cutEnd_ok {d : Dk} {t : List UInt8} {ps : List Pt} (c : Clean d t) (hf : d.fuse < 0) (hs : Scan t ps) : (cutEnd d ps).2 = none ∧ Clean (cutEnd d ps).1 (flatP ps) ∧ (cutEnd d ps).1.fuse < 0 := by
  obtain ⟨rest, he, _⟩ := hs.ex
  have hlen : t.length = (flatP ps).length + rest.length := by rw [he, List.length_append]
  unfold cutEnd
  by_cases h : (flatP ps).length < d.l.length
  · rw [if_pos h]
    rw [c.txt] at h
    obtain ⟨cg, cf, hc⟩ := up_cut c.up c.good (flatP ps).length (by rw [c.txt]; omega)
    rcases hc with ⟨h1, h2, h3, h4, h5⟩ | ⟨a, h1, h2, h3, h4, h5⟩
    · refine ⟨by unfold endK; rw [h1]; rfl, ⟨cg, h2, ?_, ?_⟩, cf hf⟩
      · show (d.cut _).1.l = _
        rw [h3, c.txt, he, List.take_left]
      · show (d.cut _).1.safe = _
        rw [h4, c.safe, if_pos (by omega)]
    · omega
  · rw [if_neg h]
    rw [c.txt] at h
    have hr : rest = [] := List.eq_nil_of_length_eq_zero (by omega)
    rw [hr, List.append_nil] at he
    exact ⟨rfl, by rw [← he]; exact c, hf⟩
theorem mark_out {d : Dk} {l : List UInt8} {g : Nat} (c : Clean d l) (hf : d.fuse < 0) : ((markM d g).2 = none ∧ Clean (markM d g).1 (l ++ sealP ⟨4, g, l.length, []⟩) ∧ (markM d g).1.fuse < 0) ∨ ((markM d g).2 = some 4 ∧ Clean (markM d g).1 l ∧ (markM d g).1.fuse < 0) := by
  obtain ⟨sg, sf, hsy⟩ := up_sync c.up c.good
  rcases hsy with ⟨s1, s2, s3, s4, s5⟩ | ⟨a, s1, s2, s3, s4, s5⟩
  rotate_left
  · omega
  generalize hd1 : d.sync.1 = d1 at *
  have hsv : d1.safeV.toNat = l.length := by rw [zCp s2, s4, c.txt, Int.toNat_natCast]
  have hM : markM d g = andK (d1.append (sealP ⟨4, g, l.length, []⟩)) fun d2 => endK d2.sync := by
    have : markM d g = andK d.sync fun d1 => andK (d1.append (sealP ⟨4, g, d1.safeV.toNat, []⟩)) fun d2 => endK d2.sync := rfl
    rw [this]
    conv => lhs; unfold andK
    rw [s1, hd1]
    simp only
    rw [hsv]
    rfl
  rw [hM]
  obtain ⟨bg, bf, hb⟩ := zFf s2 sg (sealP ⟨4, g, l.length, []⟩)
  rcases hb with ⟨a, b1, b2, _⟩ | ⟨b1, b2, b3, b4, b5, _⟩ | ⟨a, b1, b2, b3, b4, b5⟩
  · right
    have hw : andK (d1.append (sealP ⟨4, g, l.length, []⟩)) (fun d => endK d.sync) = (d1, some 4) := by unfold andK; rw [b1, b2]
    rw [hw]
    exact ⟨rfl, ⟨sg, s2, by rw [s3, c.txt], by rw [s4, c.txt]⟩, sf hf⟩
  · left
    generalize hd3 : (d1.append (sealP ⟨4, g, l.length, []⟩)).1 = d3 at *
    have hw : andK (d1.append (sealP ⟨4, g, l.length, []⟩)) (fun d => endK d.sync) = endK d3.sync := by unfold andK; rw [b1, hd3]
    rw [hw]
    obtain ⟨tg, tf, ht⟩ := up_sync b2 bg
    rcases ht with ⟨t1, t2, t3, t4, t5⟩ | ⟨a, t1, t2, t3, t4, t5⟩
    · exact ⟨by unfold endK; rw [t1]; rfl, ⟨tg, t2, by show d3.sync.1.l = _; rw [t3, b3, s3, c.txt], by show d3.sync.1.safe = _; rw [t4, b3, s3, c.txt]⟩, tf (bf (sf hf))⟩
    · have := bf (sf hf); omega
  · have := sf hf; omega
theorem tail_top {d : Dk} {t : List UInt8} {g : Nat} {ps : List Pt} {F : List (List UInt8) → Prop} (c : Clean d t) (hf : d.fuse < 0) (hs : Scan t ps) (hn : ¬ Corrupt t (flatP ps).length) (ho : ordB ps = true) (hg : genP ps = g) (hF : F (recsP ps))
    (hb : ∀ i, LastMark ps i → (∃ x, ps.getLast? = some x ∧ x.k ≠ 4) → ∃ l, Gens g l (ps.take (i + 1)) ∧ F l) : Top d g F := by
  refine ⟨t, ps, c, hs, hn, ho, hg, fun d' e zs ht => ?_⟩
  obtain ⟨h1, h2, h3⟩ := cutEnd_ok c hf hs
  have hg1 : 1 ≤ g ∧ g ≤ 1099511627776 := by
    cases ps with
    | nil => cases ho
    | cons x l =>
      have hx := hs.ok.cons.1
      have h1 : x.k = 1 := by
        unfold ordB at ho
        by_cases h : x.k = 1
        · exact h
        · simp [h] at ho
      have h2 : genP (x :: l) = x.g := by simp [genP, h1]
      rw [← hg, h2]
      exact ⟨hx.g0, hx.g1⟩
  cases ht with
  | cutErr h => rw [h1] at h; cases h
  | marked h hl => exact ⟨rfl, hF, ps, h2, hs.ok, ho, hg, rfl, .inl hl⟩
  | mark h hl hm =>
    rcases mark_out (g := g) h2 h3 with ⟨m1, m2, m3⟩ | ⟨m1, _, _⟩
    · have hmk : Pt.Ok ⟨4, g, (flatP ps).length, []⟩ := zBh hg1.1 hg1.2 (by have := zDz h2; omega) 4 (.inr (.inr rfl))
      refine ⟨m1, hF, ps ++ [⟨4, g, (flatP ps).length, []⟩], ?_, ?_, ?_, ?_, ?_, .inl ⟨_, List.getLast?_concat .., rfl⟩⟩
      · rw [zBq, zBo, zE0, List.append_nil]; exact m2
      · exact hs.ok.app fun x hx => by rw [List.mem_singleton] at hx; subst hx; exact hmk
      · exact zEk ho (by rw [hg]; exact Tl.mark g _)
      · rw [zEj ho, hg]
      · rw [zBp]; simp [recsP]
    · exact absurd m1 hm
  | noMark h hl hm hn4 =>
    rcases mark_out (g := g) h2 h3 with ⟨m1, _, _⟩ | ⟨m1, m2, m3⟩
    · rw [m1] at hm; cases hm
    · exact ⟨rfl, hF, ps, m2, hs.ok, ho, hg, rfl, .inr hn4⟩
  | back h hl hm hi =>
    rename_i i
    rcases mark_out (g := g) h2 h3 with ⟨m1, _, _⟩ | ⟨m1, m2, m3⟩
    · rw [m1] at hm; cases hm
    · obtain ⟨l, hG, hFl⟩ := hb i hi hl
      have hsp : flatP ps = flatP (ps.take (i + 1)) ++ flatP (ps.drop (i + 1)) := by rw [← zBq, List.take_append_drop]
      have hle : (flatP (ps.take (i + 1))).length ≤ (flatP ps).length := by rw [hsp, List.length_append]; omega
      obtain ⟨cg, cf, hc⟩ := up_cut m2.up m2.good (flatP (ps.take (i + 1))).length (by rw [m2.txt]; exact hle)
      rcases hc with ⟨q1, q2, q3, q4, q5⟩ | ⟨a, q1, q2, q3, q4, q5⟩
      · refine ⟨by rw [q1]; rfl, by rw [hG.recs]; exact hFl, ps.take (i + 1), ⟨cg, q2, ?_, ?_⟩, by rw [hG.recs]; exact hG⟩
        · rw [q3, m2.txt, hsp, List.take_left]
        · rw [q4, m2.safe]
          split
          · rfl
          · have : (flatP ps).length = (flatP (ps.take (i + 1))).length := by omega
            rw [this]
      · omega
theorem open_leftG {da db da' db' : Dk} {g g' : Nat} {F : List (List UInt8) → Prop} {l' : List (List UInt8)} {e : Option Int} {sw : Bool} (ht : Top da g F) (hl : Low' db g) (h : OpenR da db da' db' e sw g' l') : e = none ∧ sw = false ∧ g' = g ∧ F l' ∧ (∃ qs, Stnd da' g l' qs) ∧ Low' db' g := by
  obtain ⟨t, ps, c, hs, hcn, ho, hg, hT⟩ := ht
  obtain ⟨s, cb, qs0, hq, hqn, hqg⟩ := hl
  rw [← c.txt] at hs hcn
  have hq' := hq; have hqn' := hqn
  rw [← cb.txt] at hq' hqn'
  have key : ∀ {ps' qs cx cy}, ScanK da.l ps' cx → ScanK db.l qs cy → ps' = ps ∧ qs = qs0 ∧ cx = false ∧ cy = false := fun hx hy => ⟨zCa hx hs, zCa hy hq', zCm hx hs hcn, zCm hy hq' hqn'⟩
  have hwh : wh false ps = true := by unfold wh; rw [ho]; rfl
  cases h with
  | down h => rcases h with h | h
              · rw [c.up] at h; cases h
              · rw [cb.up] at h; cases h
  | corrupt ps' qs cx cy hu hx hy hbc =>
    obtain ⟨rfl, rfl, rfl, rfl⟩ := key hx hy
    exact absurd hbc (by simp [badC, badX])
  | anew ps' qs cx cy hu hx hy hbc h1 h2 =>
    obtain ⟨rfl, rfl, rfl, rfl⟩ := key hx hy
    rw [hwh] at h1; cases h1
  | left ps' qs cx cy hu hx hy hbc hw hsw ht =>
    obtain ⟨rfl, rfl, rfl, rfl⟩ := key hx hy
    rw [hg] at ht
    obtain ⟨r1, r2, r3⟩ := hT _ _ _ ht
    exact ⟨r1, rfl, hg, r2, r3, s, cb, qs, hq, hqn, hqg⟩
  | right ps' qs cx cy hu hx hy hbc hw hsw ht =>
    obtain ⟨rfl, rfl, rfl, rfl⟩ := key hx hy
    exfalso
    unfold swB at hsw
    rw [hwh, hw] at hsw
    have h1 : genP ps' < genP qs := by simpa using hsw
    have h2 := hqg (by unfold wh at hw; simpa using hw)
    omega
theorem open_rightG {da db da' db' : Dk} {g g' : Nat} {F : List (List UInt8) → Prop} {l' : List (List UInt8)} {e : Option Int} {sw : Bool} (ht : Top db g F) (hl : Low' da g) (h : OpenR da db da' db' e sw g' l') : e = none ∧ sw = true ∧ g' = g ∧ F l' ∧ (∃ qs, Stnd db' g l' qs) ∧ Low' da' g := by
  obtain ⟨t, ps, c, hs, hcn, ho, hg, hT⟩ := ht
  obtain ⟨s, cb, qs0, hq, hqn, hqg⟩ := hl
  rw [← c.txt] at hs hcn
  have hq' := hq; have hqn' := hqn
  rw [← cb.txt] at hq' hqn'
  have key : ∀ {ps' qs cx cy}, ScanK da.l ps' cx → ScanK db.l qs cy → ps' = qs0 ∧ qs = ps ∧ cx = false ∧ cy = false := fun hx hy => ⟨zCa hx hq', zCa hy hs, zCm hx hq' hqn', zCm hy hs hcn⟩
  have hwh : wh false ps = true := by unfold wh; rw [ho]; rfl
  cases h with
  | down h => rcases h with h | h
              · rw [cb.up] at h; cases h
              · rw [c.up] at h; cases h
  | corrupt ps' qs cx cy hu hx hy hbc =>
    obtain ⟨rfl, rfl, rfl, rfl⟩ := key hx hy
    exact absurd hbc (by simp [badC, badX])
  | anew ps' qs cx cy hu hx hy hbc h1 h2 =>
    obtain ⟨rfl, rfl, rfl, rfl⟩ := key hx hy
    rw [hwh] at h2; cases h2
  | left ps' qs cx cy hu hx hy hbc hw hsw ht =>
    obtain ⟨rfl, rfl, rfl, rfl⟩ := key hx hy
    exfalso
    unfold swB at hsw
    rw [hwh, hw] at hsw
    have h1 : ¬ genP ps' < genP qs := by simpa using hsw
    have h2 := hqg (by unfold wh at hw; simpa using hw)
    omega
  | right ps' qs cx cy hu hx hy hbc hw hsw ht =>
    obtain ⟨rfl, rfl, rfl, rfl⟩ := key hx hy
    rw [hg] at ht
    obtain ⟨r1, r2, r3⟩ := hT _ _ _ ht
    exact ⟨r1, rfl, hg, r2, r3, s, cb, ps', hq, hqn, hqg⟩
end Go.Proofs.Ytblikpbaeippaaa


namespace Go.Proofs.Ytblikpbaeippaaa
set_option linter.unusedVariables false
set_option linter.unusedSimpArgs false
open Go.RowKit Px Wr
def ToldK (anew : Bool) (hv under l : List (List UInt8)) : Prop := if anew = true then l = hv ∨ l = under else ∃ n, l = hv ++ under.take n
theorem ToldK.self {anew : Bool} {hv under : List (List UInt8)} : ToldK anew hv under hv := by
  unfold ToldK
  split
  · exact .inl rfl
  · exact ⟨0, by simp⟩
inductive Bef (dP dS : Dk) (g : Nat) (hv : List (List UInt8)) : List (List UInt8) → Bool → Prop where
  | quiet {ps : List Pt} {s : List UInt8} (under : List (List UInt8)) (anew : Bool) (hp : Rest dP (flatP ps)) (hg : Gens g hv ps) (hr : Rest dS s) (ho : Old s g) : Bef dP dS g hv under anew
  | put {ps : List Pt} {s : List UInt8} {p q : Nat} {L : List (List UInt8)} (hg : Gens g hv ps) (ht : Torn dP (flatP ps) (recP g p L ++ [⟨4, g, q, []⟩])) (hx : AllOk (recP g p L ++ [⟨4, g, q, []⟩])) (hr : Rest dS s) (ho : Old s g) : Bef dP dS g hv L false
  | start {ps : List Pt} {q : Nat} {L : List (List UInt8)} (hp : Rest dP (flatP ps)) (hg : Gens g hv ps) (ht : Torn dS [] (begP (g + 1) 0 L ++ [⟨4, g + 1, q, []⟩])) (hx : AllOk (begP (g + 1) 0 L ++ [⟨4, g + 1, q, []⟩])) : Bef dP dS g hv L true
theorem gens_top {d : Dk} {g : Nat} {hv : List (List UInt8)} {ps : List Pt} {F : List (List UInt8) → Prop} (c : Clean d (flatP ps)) (hf : d.fuse < 0) (hg : Gens g hv ps) (hF : F hv) : Top d g F := by
  refine tail_top c hf (Scan.full hg.ok) zC5 hg.ord hg.gen (by rw [hg.recs]; exact hF) fun i hi hl => ?_
  exfalso
  obtain ⟨x, hx, hx4⟩ := hl
  rcases hg.mko with ⟨y, hy, hy4⟩ | h
  · rw [hx] at hy; cases hy; exact hx4 hy4
  · obtain ⟨⟨z, hz, hz4⟩, _⟩ := hi
    exact h z (List.mem_of_getElem? hz) hz4
theorem zEg (d : Dk) (k : Int) (mask : List UInt8) : (d.crash k mask).fuse < 0 := by
  show (-1 : Int) < 0
  omega
theorem ext_recs (g p q : Nat) (L : List (List UInt8)) (i : Nat) : recsP ((recP g p L ++ [(⟨4, g, q, []⟩ : Pt)]).take i) = L.take i := by
  rw [List.take_append, zBp, recP_take, zEe]
  have : ∀ m : Pt, m.k = 4 → recsP ([m].take (i - (recP g p L).length)) = [] := fun m h4 => by
    cases i - (recP g p L).length with
    | zero => rfl
    | succ n => simp [recsP, h4]
  rw [this _ rfl, List.append_nil]
theorem ext_k4 {g p q : Nat} {L : List (List UInt8)} {j : Nat} {x : Pt} (h : (recP g p L ++ [(⟨4, g, q, []⟩ : Pt)])[j]? = some x) (h4 : x.k = 4) : j = L.length := by
  by_cases hj : j < L.length
  · rw [List.getElem?_append_left (by rw [zB7]; exact hj)] at h
    have hm := List.mem_of_getElem? h
    unfold recP at hm
    obtain ⟨t, _, rfl⟩ := List.mem_map.1 hm
    simp at h4
  · have := (List.getElem?_eq_some_iff.1 h).1
    rw [List.length_append, zB7, List.length_singleton] at this
    omega
theorem beg_k4 {g p : Nat} {L : List (List UInt8)} {x : Pt} (h : x ∈ begP g p L) : x.k ≠ 4 := by
  unfold begP at h
  rcases List.mem_cons.1 h with rfl | h
  · simp
  · rcases List.mem_append.1 h with h | h
    · unfold recP at h
      obtain ⟨t, _, rfl⟩ := List.mem_map.1 h
      simp
    · rw [List.mem_singleton] at h; subst h; simp
theorem bef_crash {dP dS : Dk} {g : Nat} {hv under : List (List UInt8)} {anew : Bool} (b : Bef dP dS g hv under anew) (k1 k2 : Int) (m1 m2 : List UInt8) :
    (Top (dP.crash k1 m1) g (ToldK anew hv under) ∧ Low' (dS.crash k2 m2) g) ∨ (Top (dS.crash k2 m2) (g + 1) (ToldK anew hv under) ∧ Low' (dP.crash k1 m1) (g + 1)) := by
  cases b with
  | quiet under anew hp hg hr ho =>
    exact .inl ⟨gens_top (hp.crash k1 m1) (zEg _ _ _) hg ToldK.self, _, hr.crash k2 m2, ho⟩
  | put hg ht hx hr ho =>
    rename_i ps s p q
    left
    refine ⟨?_, _, hr.crash k2 m2, ho⟩
    obtain ⟨i, t, hi, c, hf, _, hs, hn⟩ := zIf rfl hg.ok hx ht k1 m1
    have htl : Tl (genP ps) ((recP g p under ++ [(⟨4, g, q, []⟩ : Pt)]).take i) := by
      rw [hg.gen]
      exact ((Tl.recP g p under).app (Tl.mark g q)).take i
    refine tail_top c (zEg _ _ _) hs hn (zEk hg.ord htl) (by rw [zEj hg.ord, hg.gen]) ?_ fun i0 hi0 hl => ?_
    · unfold ToldK
      rw [if_neg (by decide), zBp, hg.recs, ext_recs]
      exact ⟨i, rfl⟩
    · obtain ⟨⟨z, hz, hz4⟩, hmax⟩ := hi0
      obtain ⟨y, hy, hy4⟩ := hl
      have hlen : ((recP g p under ++ [⟨4, g, q, []⟩] : List Pt)).length = under.length + 1 := by rw [List.length_append, zB7, List.length_singleton]
      have hlt : i0 < ps.length := by
        refine Nat.lt_of_not_le fun h => ?_
        rw [List.getElem?_append_right h, List.getElem?_take] at hz
        split at hz
        · rename_i hlt
          have he := ext_k4 hz hz4
          have hii : i = under.length + 1 := by omega
          have : (recP g p under ++ [⟨4, g, q, []⟩] : List Pt).take i = recP g p under ++ [⟨4, g, q, []⟩] := List.take_of_length_le (by omega)
          rw [this, ← List.append_assoc, List.getLast?_concat] at hy
          cases hy
          exact hy4 rfl
        · cases hz
      rcases hg.mko with ⟨w, hw, hw4⟩ | hno
      · have hpe : ps ≠ [] := fun r => by subst r; cases hw
        have hpl := List.length_pos_iff.2 hpe
        have hwl : ps[ps.length - 1]? = some w := by rw [← List.getLast?_eq_getElem?]; exact hw
        have he : i0 + 1 = ps.length := by
          refine Nat.le_antisymm (by omega) (Nat.le_of_not_lt fun h => ?_)
          exact hmax (ps.length - 1) w (by omega) (by rw [List.getElem?_append_left (by omega)]; exact hwl) hw4
        rw [he, List.take_left]
        exact ⟨hv, hg, ToldK.self⟩
      · rw [List.getElem?_append_left hlt] at hz
        exact absurd hz4 (hno z (List.mem_of_getElem? hz))
  | start hp hg ht hx =>
    rename_i ps q
    obtain ⟨i, t, hi, c, hf, _, hs, hn⟩ := zIf (ps := []) rfl (fun x hx => by cases hx) hx ht k2 m2
    rw [List.nil_append] at hs hn
    by_cases ho : ordB ((begP (g + 1) 0 under ++ [(⟨4, g + 1, q, []⟩ : Pt)]).take i) = true
    · right
      have hlen : (begP (g + 1) 0 under ++ [⟨4, g + 1, q, []⟩] : List Pt).length = under.length + 3 := by rw [List.length_append, zEr, List.length_singleton]
      have hi2 : under.length + 2 ≤ i := by
        refine Nat.le_of_not_lt fun h => ?_
        rw [ordB_short (g + 1) 0 under _ i (by omega)] at ho
        cases ho
      refine ⟨?_, _, hp.crash k1 m1, hg.old (by omega)⟩
      have hcase : (begP (g + 1) 0 under ++ [⟨4, g + 1, q, []⟩] : List Pt).take i = begP (g + 1) 0 under ∨ (begP (g + 1) 0 under ++ [⟨4, g + 1, q, []⟩] : List Pt).take i = begP (g + 1) 0 under ++ [⟨4, g + 1, q, []⟩] := by
        by_cases h : i = under.length + 2
        · left
          rw [h, ← zEr (g + 1) 0 under, List.take_left]
        · right
          exact List.take_of_length_le (by omega)
      refine tail_top c (zEg _ _ _) hs hn ho ?_ ?_ fun i0 hi0 hl => ?_
      · rcases hcase with h | h <;> rw [h]
        · have := genP_beg (g + 1) 0 under []
          rwa [List.append_nil] at this
        · exact genP_beg (g + 1) 0 under _
      · unfold ToldK
        rw [if_pos rfl]
        right
        rcases hcase with h | h <;> rw [h]
        · exact zEz _ _ _
        · rw [zBp, zEz]; simp [recsP]
      · exfalso
        obtain ⟨⟨z, hz, hz4⟩, _⟩ := hi0
        obtain ⟨y, hy, hy4⟩ := hl
        rcases hcase with h | h
        · rw [h] at hz
          exact beg_k4 (List.mem_of_getElem? hz) hz4
        · rw [h, List.getLast?_concat] at hy
          cases hy
          exact hy4 rfl
    · left
      exact ⟨gens_top (hp.crash k1 m1) (zEg _ _ _) hg ToldK.self, t, c, _, hs, hn, fun h => absurd h ho⟩
theorem put_at {d : Dk} {g : Nat} {l : List (List UInt8)} {s : List UInt8} (c : Clean d s) (hg : 1 ≤ g ∧ g ≤ 1099511627776) (hl : ∀ t ∈ l, t.length ≤ 4096) (h4 : l.length ≤ 400) (h0 : l ≠ []) :
    ∃ p q, AllOk (recP g p l ++ [⟨4, g, q, []⟩]) ∧ WOut d (PutM d g false l).1 (PutM d g false l).2 s (recP g p l ++ [⟨4, g, q, []⟩]) := by
  have hlen := zDz c
  have hsf : d.safeV.toNat = s.length := by rw [zCp c.up, c.safe, Int.toNat_natCast]
  have hM : PutM d g false l = writeM d g (s.length : Nat) (flatP (recP g s.length l)) := by
    unfold PutM
    have hb : (l.any fun s => decide (4096 < s.length)) = false := by
      rw [List.any_eq_false]
      intro t ht
      have := hl t ht
      simp only [decide_eq_true_eq]; omega
    rw [if_neg (by decide), if_neg h0, if_neg (by rw [hb]; simp; omega), if_neg (by rw [c.up]; decide), hsf, c.txt]
  rw [hM]
  have hrl := zFc (g := g) (p := s.length) (l := l) hg.1 hg.2 (by omega) hl
  have hl4 : l.length * 8301 ≤ 400 * 8301 := Nat.mul_le_mul_right _ h4
  refine ⟨_, _, ?_, zFa c g (recP g s.length l) fun x hx => ?_⟩
  · refine (zCc hg.1 hg.2 (by omega) hl).app fun x hx => ?_
    rw [List.mem_singleton] at hx
    subst hx
    exact zBh hg.1 hg.2 (by rw [List.length_append]; omega) 4 (.inr (.inr rfl))
  · obtain ⟨t, _, rfl⟩ := List.mem_map.1 hx
    exact Nat.le_refl _
theorem put_keep {d dS : Dk} {g : Nat} {hv l : List (List UInt8)} {ps : List Pt} {s : List UInt8} (p : Stnd d g hv ps) (hr : Rest dS s) (ho : Old s g) :
    ((PutM d g false l).2 = none ∧ PutO false l none = false ∧ ∃ ps', Stnd (PutM d g false l).1 g (hv ++ l) ps') ∨ ((PutM d g false l).2 = some 3 ∧ PutO false l (some 3) = false ∧ (PutM d g false l).1 = d) ∨ (PutM d g false l).2 = some 4 ∨
    ((PutM d g false l).2 = some 5 ∧ Bef (PutM d g false l).1 dS g hv l false ∧ Good (PutM d g false l).1) := by
  by_cases h0 : l = []
  · subst h0
    have hM : PutM d g false [] = (d, none) := by unfold PutM; rw [if_neg (by decide), if_pos rfl]
    rw [hM]
    exact .inl ⟨rfl, by unfold PutO; rw [if_pos (.inr (.inl rfl))], ps, by rw [List.append_nil]; exact p⟩
  by_cases h1 : 400 < l.length ∨ (l.any fun s => decide (4096 < s.length)) = true
  · have hM : PutM d g false l = (d, some 3) := by unfold PutM; rw [if_neg (by decide), if_neg h0, if_pos h1]
    rw [hM]
    exact .inr (.inl ⟨rfl, by unfold PutO; rw [if_pos (.inr (.inr h1))], rfl⟩)
  have h2 : (l.any fun s => decide (4096 < s.length)) = false := by
    cases h : (l.any fun s => decide (4096 < s.length)) with
    | false => rfl
    | true => exact absurd (.inr h) h1
  obtain ⟨a, q, hx, hw⟩ := put_at p.clean p.gens.g1 (zEa h2) (by omega) h0
  rcases hw.out with ⟨h3, hc⟩ | ⟨h4, hc⟩ | ⟨h5, hd, ht⟩
  · refine .inl ⟨h3, ?_, ps ++ (recP g a l ++ [⟨4, g, q, []⟩]), by rw [zBq]; exact hc, p.gens.ok.app hx, zEk p.gens.ord (by rw [p.gens.gen]; exact (Tl.recP g a l).app (Tl.mark g q)), by rw [zEj p.gens.ord, p.gens.gen], ?_, .inl ⟨_, by rw [← List.append_assoc]; exact List.getLast?_concat .., rfl⟩⟩
    · unfold PutO
      rw [if_neg (by rintro (h | h | h) <;> first | exact h0 h | exact h1 h | cases h)]
      rfl
    · rw [zBp, p.gens.recs, zBp, zEe]
      simp [recsP]
  · exact .inr (.inr (.inl h4))
  · exact .inr (.inr (.inr ⟨h5, .put p.gens ht hx hr ho, ht.good⟩))
theorem start_keep {dP d : Dk} {g : Nat} {hv l : List (List UInt8)} {ps : List Pt} {s : List UInt8} (p : Stnd dP g hv ps) (c : Clean d s) (ho : Old s g) (hN : l.length ≤ 450) :
    ((StartM d g false l).2 = none ∧ StartO g false l none = false ∧ ∃ ps', Stnd (StartM d g false l).1 (g + 1) l ps') ∨ ((StartM d g false l).2 = some 3 ∧ StartO g false l (some 3) = false ∧ (StartM d g false l).1 = d) ∨ (StartM d g false l).2 = some 4 ∨
    ((StartM d g false l).2 = some 5 ∧ Bef dP (StartM d g false l).1 g hv l true ∧ Good (StartM d g false l).1) := by
  by_cases h1 : 1099511627776 ≤ g ∨ (l.any fun s => decide (4096 < s.length)) = true
  · have hM : StartM d g false l = (d, some 3) := by unfold StartM; rw [if_neg (by decide), if_pos h1]
    rw [hM]
    exact .inr (.inl ⟨rfl, by unfold StartO; rw [if_pos (.inr h1)], rfl⟩)
  have h2 : (l.any fun s => decide (4096 < s.length)) = false := by
    cases h : (l.any fun s => decide (4096 < s.length)) with
    | false => rfl
    | true => exact absurd (.inr h) h1
  have hM : StartM d g false l = startM d g l := by unfold StartM; rw [if_neg (by decide), if_neg h1]
  rw [hM]
  rcases zFn c (g := g) (l := l) (by omega) (zEa h2) (by omega) with ⟨h3, h4, h5, h6, h7, _⟩ | ⟨d1, ext, c1, r1, f1, x1, ⟨q, hq, rfl⟩, hw⟩
  · exact .inr (.inr (.inr ⟨h3, .quiet l true p.clean.rest p.gens ⟨h5, h6, h7⟩ ho, h5⟩))
  rcases hw.out with ⟨h3, hc⟩ | ⟨h4, hc⟩ | ⟨h5, hd, ht⟩
  · refine .inl ⟨h3, ?_, _, (Pres.begun hq x1 hc).stnd⟩
    unfold StartO
    rw [if_neg (by rintro (h | h) <;> first | exact h1 h | cases h)]
    rfl
  · exact .inr (.inr (.inl h4))
  · exact .inr (.inr (.inr ⟨h5, .start p.clean.rest p.gens ht x1, ht.good⟩))
end Go.Proofs.Ytblikpbaeippaaa


namespace Go.Proofs.Ytblikpbaeippaaa
set_option linter.unusedVariables false
set_option linter.unusedSimpArgs false
open Go.RowKit Px Wr
theorem zFg {x y r : List (List UInt8)} (h : y = x ++ r) : (decide (x.length ≤ y.length) && decide (x = y.take x.length)) = true := by
  subst h
  rw [List.take_left]
  simp
theorem sz_strJ : szOf Try.prog 9 = some 1 := by kernel_rfl
def headJ (B : Option Addr) (c : Nat) : Option Addr := match B with
  | none => none
  | some a => if c = 0 then some a else some (a.add 0)
theorem y_toNoneJ (B : Option Addr) (c : Nat) (K : Value → Prop) : Yld Try.prog (Instr.sliceAt 34 (.slice B 0 c) none (some (.int .i64 0)) none) K = K (.slice (headJ B c) 0 c) := zAc fun w => by
  cases B with
  | none => simp [Instr.sliceAt, run_underlying Try.underlying34, Instr.slice, Instr.sliceBounds, Instr.sliceBound, asIntOf, headJ]
  | some a => simp [Instr.sliceAt, run_underlying Try.underlying34, Instr.slice, Instr.sliceBounds, Instr.sliceBound, asIntOf, headJ, Px.run_sizeOf sz_strJ]
theorem y_fromNoneJ (K : Value → Prop) : Yld Try.prog (Instr.sliceAt 34 (.slice none 0 0) (some (.int .i64 0)) none none) K = K (.slice none 0 0) := zAc fun w => by
  simp [Instr.sliceAt, run_underlying Try.underlying34, Instr.slice, Instr.sliceBounds, Instr.sliceBound, asIntOf]
theorem Px.Rv.from {w0 : World} {h : PH} {b o c k : Nat} {l : List (List UInt8)} (r : Rv w0 h (some ⟨b, o, none⟩) (l.map str)) (hc : l.length ≤ c) : Rv w0 h (cutAt b o k (decide (c = k))) ((l.drop k).map str) := by
  by_cases hk : c = k
  · rw [List.drop_eq_nil_of_le (by omega)]
    exact Rv.nil _ _ _
  · rw [decide_eq_false hk]
    intro j u e
    rw [List.getElem?_map, List.getElem?_drop, ← List.getElem?_map] at e
    obtain ⟨b', o', h1, h2⟩ := r (k + j) u e
    injection h1 with h1
    injection h1 with h1 h3
    subst h1; subst h3
    exact ⟨b, o + k, rfl, by rw [Nat.add_assoc]; exact h2⟩
set_option maxRecDepth 20000 in
set_option maxHeartbeats 2000000 in
theorem zE9 (w0 : World) (h : PH) (A B : Option Addr) (c d : Nat) (x y : List (List UInt8)) (hx : Rv w0 h A (x.map str)) (hy : Rv w0 h B (y.map str)) (hc : x.length ≤ c) (hd : y.length ≤ d) (hm : x.length ≤ 1000000000) : PCalls Try.prog w0 17 [.slice A x.length c, .slice B y.length d] h fun r h' => r = .bool (decide (x.length ≤ y.length) && decide (x = y.take x.length)) ∧ h' = h := by
  refine zAp Try.func17 (by kernel_rfl) rfl _ Try.ntmps17 (by kernel_rfl) (by kernel_rfl) _ Try.results17 ?_
  by_cases hl : x.length ≤ y.length
  · have d1 : decide ((x.length : Int) ≤ (y.length : Int)) = true := decide_eq_true (by omega)
    have hyt : Rv w0 h B ((y.take x.length).map str) := Rv.left (ys := (y.drop x.length).map str) (by rw [← List.map_append, List.take_append_drop]; exact hy)
    have hlt : (y.take x.length).length = x.length := List.length_take_of_le hl
    have hS := zDi w0 h A B c d x (y.take x.length) hx hyt hc (by omega) hm
    rw [hlt] at hS
    rw [decide_eq_true hl, Bool.true_and]
    by_cases hy0 : y = []
    · subst hy0
      have hx0 : x = [] := List.eq_nil_of_length_eq_zero (by simpa using hl)
      subst hx0
      have hS := zDi w0 h A (headJ B d) c d [] [] (Rv.nil _ _ _) (Rv.nil _ _ _) hc hd (by simp)
      simp only [List.length_nil] at hS
      simp -dsimp -implicitDefEqProofs (disch := first | omega | assumption | (simp only [Option.isSome_some,Qt0]; done) | (simp only [List.length_cons,List.length_nil,List.length_append,Int.toNat_natCast] <;> omega) | fail) only [Nat.reduceLT,Nat.reduceLeDiff,Nat.reduceEqDiff,↓reduceIte,Int.reduceLT,Int.reduceLE,Int.reduceToNat,Int.reduceEq,Int.reduceNe,Nat.reduceAdd,Int.reduceAdd,Int.reduceSub,Int.reduceMul,Nat.reduceMul,Qp0,Qp1,Ql0,Qe0,d1,y_toNoneJ]
      refine hS.mono ?_
      rintro v hz ⟨rfl, hq⟩
      obtain rfl := hq.symm
      simp -dsimp -implicitDefEqProofs (disch := first | omega | assumption | (simp only [Option.isSome_some,Qt0]; done) | (simp only [List.length_cons,List.length_nil,List.length_append,Int.toNat_natCast] <;> omega) | fail) only [Nat.reduceLT,Nat.reduceLeDiff,Nat.reduceEqDiff,↓reduceIte,Int.reduceLT,Int.reduceLE,Int.reduceToNat,Int.reduceEq,Int.reduceNe,Nat.reduceAdd,Int.reduceAdd,Int.reduceSub,Int.reduceMul,Nat.reduceMul,Qp0,Qp1,Ql0,Qe0]
      exact ⟨_, PH.Le.refl _, by first | rfl | trivial, rfl⟩
    · obtain ⟨b, o, rfl⟩ := hy.addr (by rw [List.length_map]; exact List.length_pos_iff.2 hy0)
      simp -dsimp -implicitDefEqProofs (disch := first | omega | assumption | (simp only [Option.isSome_some,Qt0]; done) | (simp only [List.length_cons,List.length_nil,List.length_append,Int.toNat_natCast] <;> omega) | fail) only [Nat.reduceLT,Nat.reduceLeDiff,Nat.reduceEqDiff,↓reduceIte,Int.reduceLT,Int.reduceLE,Int.reduceToNat,Int.reduceEq,Int.reduceNe,Nat.reduceAdd,Int.reduceAdd,Int.reduceSub,Int.reduceMul,Nat.reduceMul,Qp0,Qp1,Ql0,Qe0,d1]
      refine hS.mono ?_
      rintro v hz ⟨rfl, hq⟩
      obtain rfl := hq.symm
      simp -dsimp -implicitDefEqProofs (disch := first | omega | assumption | (simp only [Option.isSome_some,Qt0]; done) | (simp only [List.length_cons,List.length_nil,List.length_append,Int.toNat_natCast] <;> omega) | fail) only [Nat.reduceLT,Nat.reduceLeDiff,Nat.reduceEqDiff,↓reduceIte,Int.reduceLT,Int.reduceLE,Int.reduceToNat,Int.reduceEq,Int.reduceNe,Nat.reduceAdd,Int.reduceAdd,Int.reduceSub,Int.reduceMul,Nat.reduceMul,Qp0,Qp1,Ql0,Qe0]
      exact ⟨_, PH.Le.refl _, by first | rfl | trivial, rfl⟩
  · have d1 : decide ((x.length : Int) ≤ (y.length : Int)) = false := decide_eq_false (by omega)
    rw [decide_eq_false hl, Bool.false_and]
    simp -dsimp -implicitDefEqProofs (disch := first | omega | assumption | (simp only [Option.isSome_some,Qt0]; done) | (simp only [List.length_cons,List.length_nil,List.length_append,Int.toNat_natCast] <;> omega) | fail) only [Nat.reduceLT,Nat.reduceLeDiff,Nat.reduceEqDiff,↓reduceIte,Int.reduceLT,Int.reduceLE,Int.reduceToNat,Int.reduceEq,Int.reduceNe,Nat.reduceAdd,Int.reduceAdd,Int.reduceSub,Int.reduceMul,Nat.reduceMul,Qp0,Qp1,Ql0,Qe0,d1]
    exact ⟨_, PH.Le.refl _, by first | rfl | trivial, rfl⟩
end Go.Proofs.Ytblikpbaeippaaa


namespace Go.Proofs.Ytblikpbaeippaaa.Base
set_option linter.unusedVariables false
set_option linter.unusedSimpArgs false
open Go.ChangeShapes Go.WideShapes Go.ChangeAt Go.RowKit Go.Deep

theorem own : ownKnob Try.prog.godebug = none := by kernel_rfl
theorem laidOut : laidOutB Try.prog = true := by kernel_rfl

def Blk (w : World) (b : Nat) (t : TypeId) (cs : Array Value) : Prop := w.heap[b]? = some (.cells cs t (0, 0))

section
variable {w w' : World} {b : Nat} {t : TypeId} {cs : Array Value}
theorem Blk.lt (h : Blk w b t cs) : b < w.heap.size := (Array.getElem?_eq_some_iff.1 h).1
theorem Blk.cell (h : Blk w b t cs) (i : Nat) : w.cell? ⟨b, i, none⟩ = cs[i]? := cell_of_row w b i cs t (0, 0) h
theorem Blk.frozen (h : Blk w b t cs) (i : Nat) : w.frozen? ⟨b, i, none⟩ = false := by
  unfold Blk at h
  simp [World.frozen?, h]
theorem Blk.new (w : World) (t : TypeId) (cs : Array Value) : Blk (w.alloc (.cells cs t)) w.heap.size t cs := heap_alloc_new w _
theorem Blk.drew (h : Blk w b t cs) : Blk w.drew b t cs := h
theorem Blk.alloc (h : Blk w b t cs) (o : Obj) : Blk (w.alloc o) b t cs := (Below.heap_alloc w o b h.lt).trans h
theorem Blk.set_ (h : Blk w b t cs) (i : Nat) (u : Value) : Blk (w.setCell ⟨b, i, none⟩ u) b t (cs.setIfInBounds i u) := by
  unfold Blk at h ⊢
  simp [World.setCell, Array.getElem?_modify, h]
theorem Blk.below {B : Nat} (h : Blk w b t cs) (hb : Below B w w') (hlt : b < B) : Blk w' b t cs := (hb.block b hlt).trans h
theorem Blk.on (h : Blk w b t cs) (hb : Below w.heap.size w w') : Blk w' b t cs := h.below hb h.lt
theorem Blk.grown {row : Option Nat} (h : Blk w b t cs) (hb : w.grownBy w' row) (hne : some b ≠ row) : Blk w' b t cs := (hb.block b h.lt hne).trans h
end

theorem args_keep {H : Type} {enc : TypeId × Value → H} {P : Program} (hl : laidOutB P = true) {W W' : World} (hb : Below W.heap.size W W') :
    ∀ {ts : List TypeId} {vs : List Value} {ds : List (DataW H)} {ps : List MemPlace}, (∀ t ∈ ts, P.readableRec t = true ∧ t < P.types.size) → (∀ x ∈ ps, x.block < W.heap.size) →
      DataW.TrodAll enc P W 0 (fun _ => true) true ts vs ds ps → DataW.TrodAll enc P W' 0 (fun b => decide (b < W.heap.size)) true ts vs ds ps
  | [], _, _, _, _, _, h => by
    obtain ⟨rfl, rfl, rfl⟩ := trodAll_nil h
    exact trodAll_mk0
  | t :: ts, _, _, _, hts, hlt, h => by
    obtain ⟨v, vs', d, ds', p, p', rfl, rfl, rfl, h0, h1⟩ := trodAll_cons h
    have ht := hts t List.mem_cons_self
    exact trodAll_cons_mk (Below.trod hl ht.1 ht.2 h0 hb fun x hx => hlt x (List.mem_append_left _ hx))
      (args_keep hl hb (fun t' ht' => hts t' (List.mem_cons_of_mem _ ht')) (fun x hx => hlt x (List.mem_append_right _ hx)) h1)

theorem law_post {H : Type} {enc : TypeId × Value → H} {P : Program} (hl : laidOutB P = true) {fn : Func} {s : ChangeSpec} {W W' : World} {args : Array Value} {ds gs : List (DataW H)} {before : List MemPlace} {tb : TypeId}
    (hW : DataW.Whole enc P fn.params.toList s.vars false W args.toList ds gs before)
    (hres : (s.fn H (ds ++ gs)).results = [.lit (.bool true)]) (hargs : (s.fn H (ds ++ gs)).args = ds) (hvars : (s.fn H (ds ++ gs)).vars = gs)
    (hrt : fn.resultTypes = #[tb]) (htb : P.underlying tb = some .bool) (hts : ∀ t ∈ fn.params.toList, P.readableRec t = true ∧ t < P.types.size) (hvr : varsRowed P s.vars = true)
    (hb : Below W.heap.size W W') : s.post enc P fn false true false false W args (.bool true) W' := by
  have hW' := hW
  obtain ⟨p, q, hA, hV, rfl, _, _⟩ := hW
  have hlt : ∀ x ∈ p ++ q, x.block < W.heap.size := fun x hx => by simpa using hW'.lt x hx
  refine ⟨ds, gs, p ++ q, [], p, q, hW', ?_, ?_, ?_, hb.frame _, fun h => by cases h⟩
  · rw [hres, hrt]
    exact trodAll_mk1 (shut_bool htb _)
  · rw [hargs]
    exact args_keep hl hb hts (fun x hx => hlt x (List.mem_append_left _ hx)) hA
  · rw [hvars]
    exact Below.trodVars hl hb hvr hV

def Rd (w : World) (B size : Nat) (A : Option Addr) (n : Nat) (xs : List Value) : Prop :=
  xs.length = n * size ∧ (0 < n → ∃ b o, A = some ⟨b, o, none⟩ ∧ b < B ∧ ∀ j u, xs[j]? = some u → w.cell? ⟨b, o + j, none⟩ = some u)

section
variable {w w' : World} {B B' size n : Nat} {A : Option Addr} {xs : List Value}
theorem Rd.none_ (w : World) (B size : Nat) (A : Option Addr) : Rd w B size A 0 [] := ⟨by simp, fun h => absurd h (by omega)⟩
theorem Rd.keep (h : Rd w B size A n xs) (hk : ∀ p : Addr, p.block < B → w'.cell? p = w.cell? p) : Rd w' B size A n xs :=
  ⟨h.1, fun hn => by
    obtain ⟨b, o, e, hb, hc⟩ := h.2 hn
    exact ⟨b, o, e, hb, fun j u hu => (hk _ hb).trans (hc j u hu)⟩⟩
theorem Rd.on (h : Rd w B size A n xs) (hb : Below B w w') : Rd w' B size A n xs := h.keep fun _ hp => hb.cell hp
theorem Rd.more (h : Rd w B size A n xs) (hB : B ≤ B') : Rd w B' size A n xs :=
  ⟨h.1, fun hn => by
    obtain ⟨b, o, e, hb, hc⟩ := h.2 hn
    exact ⟨b, o, e, by omega, hc⟩⟩
theorem Rd.drew (h : Rd w B size A n xs) : Rd w.drew B size A n xs := h
theorem Rd.alloc (h : Rd w B size A n xs) (hB : B ≤ w.heap.size) (o : Obj) : Rd (w.alloc o) B size A n xs := h.keep fun p hp => World.cell?_alloc_lt w o p (by omega)
end

theorem Rd.blk {w : World} {b : Nat} {t : TypeId} {l : List Value} {size m : Nat} (h : Blk w b t l.toArray) (hm : l.length = m * size) : Rd w w.heap.size size (some ⟨b, 0, none⟩) m l :=
  ⟨hm, fun _ => ⟨b, 0, rfl, h.lt, fun j u hu => by rw [h.cell, Nat.zero_add]; simpa using hu⟩⟩

theorem Rd.new (w : World) (t : TypeId) (l : List Value) {b size m : Nat} (hb : b = w.heap.size) (hm : l.length = m * size) : Rd (w.alloc (.cells l.toArray t)) (w.alloc (.cells l.toArray t)).heap.size size (some ⟨b, 0, none⟩) m l := by
  subst hb
  exact Rd.blk (Blk.new _ _ _) hm

def lenOf : Value → Nat
  | .slice _ n _ => n
  | _ => 0

section
variable {P : Program} {w : World}
end

theorem zEu (k : IntKind) (zs : List Int) : ∀ u ∈ zs.map (Value.int k), u.oneCell' = true := ints_oneCell k zs

section
variable {H : Type} {enc : TypeId × Value → H} {P : Program} {W : World} {b0 : Nat} {r : Reach} {t e : TypeId} {v : Value} {d : DataW H} {p : List MemPlace}

theorem open_rd (ht : P.underlying t = some (.slice e)) (hC : 0 < P.cellsOf e) (hval : Value.okWide P W r b0 t v) (h : DataW.Trod enc P W 0 (fun _ => true) true t v d p) :
    ∃ (A : Option Addr) (n c : Nat) (xs : List Value), v = .slice A n c ∧ n ≤ c ∧ c ≤ maxLen ∧ Rd W W.heap.size (P.cellsOf e) A n xs ∧ (c = 0 ∨ ∃ el sp, d = .slice el sp ∧ el.length + sp.length = c) ∧
      ∀ i, i < n → ∃ f y, DataW.trod enc P W 0 (fun _ => true) true f e ((xs.drop (i * P.cellsOf e)).take (P.cellsOf e)) = some y := by
  obtain ⟨a0, n0, c0, rfl⟩ := okWide_slice ht hval
  obtain ⟨fuel, hf⟩ := h
  rcases open_slice ht hf with ⟨hcs, _⟩ | ⟨a, n, c, m, k, D, Pl, hcs, _, hl, hm, hmm, hx, hi⟩
  · simp [Value.cells] at hcs
    obtain ⟨rfl, rfl, rfl⟩ := hcs
    exact ⟨none, 0, 0, [], rfl, by omega, by simp, Rd.none_ _ _ _ _, Or.inl rfl, fun i hi => absurd hi (by omega)⟩
  · simp [Value.cells] at hcs
    obtain ⟨rfl, rfl, rfl⟩ := hcs
    simp only [if_true] at hmm
    subst hmm
    have hcell : ∀ j, j < m * P.cellsOf e → ∃ u, W.cell? (a.add j) = some u := by
      intro j hj
      obtain ⟨cs', hc', _⟩ := hi (j / P.cellsOf e) (Nat.div_lt_of_lt_mul (by rw [Nat.mul_comm]; exact hj))
      obtain ⟨_, hlen, hat⟩ := World.cells?_some hc'
      have hr := Nat.mod_lt j hC
      have := hat (j % P.cellsOf e) hr
      rw [add_add, Nat.mul_comm, Nat.div_add_mod] at this
      exact ⟨cs'[j % P.cellsOf e]'(by omega), by rw [this]; exact List.getElem?_eq_getElem _⟩
    have hget : ∀ j u, ((List.range (n0 * P.cellsOf e)).map fun j => (W.cell? (a.add j)).getD undef)[j]? = some u → W.cell? (a.add j) = some u := by
      intro j u hu
      have hj : j < n0 * P.cellsOf e := by have := (List.getElem?_eq_some_iff.1 hu).1; simpa using this
      obtain ⟨u', hu'⟩ := hcell j (Nat.lt_of_lt_of_le hj (Nat.mul_le_mul_right _ hl))
      simp [hj, hu'] at hu
      rw [hu', hu]
    refine ⟨some a, n0, m, (List.range (n0 * P.cellsOf e)).map fun j => (W.cell? (a.add j)).getD undef, rfl, hl, hm, ⟨by simp, fun hn => ?_⟩, Or.inr ⟨_, _, (Prod.mk.inj hx).1, by simp; omega⟩, fun i hin => ?_⟩
    · obtain ⟨u, hu⟩ := hcell 0 (Nat.mul_pos (by omega) hC)
      obtain ⟨b, o, s⟩ := a
      have hs : s = none := by simpa [Addr.add] using World.cell?_spot hu
      subst hs
      refine ⟨b, o, rfl, by simpa [Addr.add] using World.block_lt_of_cell? W _ hu, fun j u hu => ?_⟩
      have := hget j u hu
      rwa [Addr.add_lit] at this
    · obtain ⟨cs', hc', ht'⟩ := hi i (by omega)
      obtain ⟨_, hlen, hat⟩ := World.cells?_some hc'
      refine ⟨k, (D i, Pl i), ?_⟩
      rw [show ((((List.range (n0 * P.cellsOf e)).map fun j => (W.cell? (a.add j)).getD undef).drop (i * P.cellsOf e)).take (P.cellsOf e)) = cs' from ?_]
      · exact ht'
      · have hle : (i + 1) * P.cellsOf e ≤ n0 * P.cellsOf e := Nat.mul_le_mul_right _ hin
        rw [Nat.add_mul, Nat.one_mul] at hle
        apply List.ext_getElem?
        intro q
        by_cases hq : q < P.cellsOf e
        · have h1 := hat q hq
          rw [add_add] at h1
          have h2 : cs'[q]? = some (cs'[q]'(by omega)) := List.getElem?_eq_getElem _
          rw [List.getElem?_take_of_lt hq, List.getElem?_drop, List.getElem?_map, List.getElem?_range (by omega), Option.map_some, h1, h2]
          rfl
        · rw [List.getElem?_eq_none (by simp; omega), List.getElem?_eq_none (by omega)]

end

def Only (p : Nat) (w w' : World) : Prop := w.grownBy w' (some p)
section
variable {p : Nat} {w w' w'' : World}
theorem Only.refl (p : Nat) (w : World) : Only p w w := World.grownBy.refl w _
theorem Only.trans (h : Only p w w') (k : Only p w' w'') : Only p w w'' :=
  ⟨k.os.trans h.os, k.tape.trans h.tape, k.output.trans h.output, Nat.le_trans h.size k.size, fun j hj hne => (k.block j (Nat.lt_of_lt_of_le hj h.size) hne).trans (h.block j hj hne)⟩
theorem Only.setCell (w : World) (p i : Nat) (u : Value) : Only p w (w.setCell ⟨p, i, none⟩ u) :=
  ⟨rfl, rfl, rfl, by simp [World.setCell], fun k _ hk => Below.heap_setCell _ _ _ _ (by intro e; exact hk (by rw [e]))⟩
theorem Only.below {B : Nat} {W0 : World} (h : Only p w w') (hb : Below B W0 w) (hB : B ≤ p) (hs : B ≤ w.heap.size) : Below B W0 w' :=
  hb.grown h hs fun k hk => by injection hk with hk; omega
theorem Blk.only {b : Nat} {t : TypeId} {cs : Array Value} (h : Blk w b t cs) (ho : Only p w w') (hne : b ≠ p) : Blk w' b t cs := h.grown ho (by intro e; injection e with e; exact hne e)
end
end Go.Proofs.Ytblikpbaeippaaa.Base


namespace Go.Proofs.Ytblikpbaeippaaa
set_option linter.unusedVariables false
set_option linter.unusedSimpArgs false
open Go.ChangeShapes Go.WideShapes Go.ChangeAt Go.RowKit Base Px
theorem zD2 {H : Type} {enc : TypeId × Value → H} {w : World} {base : Nat} {spare : Nat → Bool} {held : Bool} {n : Nat} {t : TypeId} {u : Value} {y : DataW H × List MemPlace} (ht : Try.prog.underlying t = some .string) (h : DataW.trod enc Try.prog w base spare held n t [u] = some y) : ∃ l : List UInt8, u = str l ∧ l.length ≤ maxLen := by
  obtain ⟨s, h1, _, h2⟩ := DataW.trod_string ht h
  simp at h1
  subst h1
  exact ⟨s.data.toList, rfl, h2⟩
theorem rd_param {w : World} {sz n b o : Nat} {xs : List Value} (hr : Rd w w.heap.size sz (some ⟨b, o, none⟩) n xs) (hn : 0 < n) : b < w.heap.size ∧ ∀ j u, xs[j]? = some u → rdM w none b (o + j) = some u := by
  obtain ⟨b', o', e, hb, hc⟩ := hr.2 hn
  have e := Option.some.inj e
  injection e with e1 e2 e3
  subst e1; subst e2
  exact ⟨hb, fun j u hj => by unfold rdM; simp only; rw [if_pos hb]; exact hc j u hj⟩
theorem rd_param_addr {w : World} {sz n : Nat} {A : Option Addr} {xs : List Value} (hr : Rd w w.heap.size sz A n xs) (hn : 0 < n) : ∃ b o, A = some ⟨b, o, none⟩ := by
  obtain ⟨b, o, h, _⟩ := hr.2 hn; exact ⟨b, o, h⟩
end Go.Proofs.Ytblikpbaeippaaa


namespace Go.Proofs.Ytblikpbaeippaaa
set_option linter.unusedVariables false
set_option linter.unusedSimpArgs false
open Go.ChangeShapes Go.WideShapes Go.ChangeAt Go.RowKit Go.Deep Base Px
theorem zD8 {α : Type} (Q : Nat → α → Prop) : ∀ (n : Nat), (∀ i, i < n → ∃ a, Q i a) → ∃ L : List α, L.length = n ∧ ∀ i a, L[i]? = some a → Q i a
  | 0, _ => ⟨[], rfl, fun i a h => by simp at h⟩
  | n + 1, h => by
    obtain ⟨L, h1, h2⟩ := zD8 Q n fun i hi => h i (by omega)
    obtain ⟨a, ha⟩ := h n (by omega)
    refine ⟨L ++ [a], by simp [h1], fun i b hb => ?_⟩
    rcases Nat.lt_or_ge i n with hi | hi
    · rw [List.getElem?_append_left (by omega)] at hb
      exact h2 i b hb
    · rw [List.getElem?_append_right (by omega)] at hb
      by_cases hin : i = n
      · subst hin
        simp [h1] at hb
        subst hb; exact ha
      · rw [List.getElem?_eq_none (by simp; omega)] at hb; cases hb
theorem zCx {H : Type} {enc : TypeId × Value → H} {w : World} {base : Nat} {spare : Nat → Bool} {held : Bool} {n : Nat} {t : TypeId} {u : Value} {y : DataW H × List MemPlace} (ht : Try.prog.underlying t = some (.int .i64)) (h : DataW.trod enc Try.prog w base spare held n t [u] = some y) : ∃ a : Int, u = .int .i64 a ∧ (Lit.int .i64 a).wf = true := by
  obtain ⟨a, h1, _, h2⟩ := DataW.trod_int ht h
  simp at h1
  exact ⟨a, h1, h2⟩
theorem rd_of_trod {H : Type} {enc : TypeId × Value → H} {W : World} {t e : TypeId} {u : Value} {fuel : Nat} {y : DataW H × List MemPlace} (ht : Try.prog.underlying t = some (.slice e)) (hC : 0 < Try.prog.cellsOf e) (hf : DataW.trod enc Try.prog W 0 (fun _ => true) true fuel t [u] = some y) :
    ∃ (A : Option Addr) (n c : Nat) (xs : List Value), u = .slice A n c ∧ n ≤ c ∧ c ≤ maxLen ∧ Rd W W.heap.size (Try.prog.cellsOf e) A n xs ∧
      ∀ i, i < n → ∃ f y, DataW.trod enc Try.prog W 0 (fun _ => true) true f e ((xs.drop (i * Try.prog.cellsOf e)).take (Try.prog.cellsOf e)) = some y := by
  rcases open_slice ht hf with ⟨hcs, _⟩ | ⟨a, n0, c, m, k, D, Pl, hcs, _, hl, hm, hmm, hx, hi⟩
  · simp at hcs
    subst hcs
    exact ⟨none, 0, 0, [], rfl, by omega, by simp, Rd.none_ _ _ _ _, fun i hi => absurd hi (by omega)⟩
  · simp at hcs
    subst hcs
    simp only [if_true] at hmm
    subst hmm
    have hcell : ∀ j, j < m * Try.prog.cellsOf e → ∃ u, W.cell? (a.add j) = some u := by
      intro j hj
      obtain ⟨cs', hc', _⟩ := hi (j / Try.prog.cellsOf e) (Nat.div_lt_of_lt_mul (by rw [Nat.mul_comm]; exact hj))
      obtain ⟨_, hlen, hat⟩ := World.cells?_some hc'
      have hr := Nat.mod_lt j hC
      have := hat (j % Try.prog.cellsOf e) hr
      rw [add_add, Nat.mul_comm, Nat.div_add_mod] at this
      exact ⟨cs'[j % Try.prog.cellsOf e]'(by omega), by rw [this]; exact List.getElem?_eq_getElem _⟩
    have hget : ∀ j u, ((List.range (n0 * Try.prog.cellsOf e)).map fun j => (W.cell? (a.add j)).getD undef)[j]? = some u → W.cell? (a.add j) = some u := by
      intro j u hu
      have hj : j < n0 * Try.prog.cellsOf e := by have := (List.getElem?_eq_some_iff.1 hu).1; simpa using this
      obtain ⟨u', hu'⟩ := hcell j (Nat.lt_of_lt_of_le hj (Nat.mul_le_mul_right _ hl))
      simp [hj, hu'] at hu
      rw [hu', hu]
    refine ⟨some a, n0, m, (List.range (n0 * Try.prog.cellsOf e)).map fun j => (W.cell? (a.add j)).getD undef, rfl, hl, hm, ⟨by simp, fun hn => ?_⟩, fun i hin => ?_⟩
    · obtain ⟨u, hu⟩ := hcell 0 (Nat.mul_pos (by omega) hC)
      obtain ⟨b, o, s⟩ := a
      have hs : s = none := by simpa [Addr.add] using World.cell?_spot hu
      subst hs
      refine ⟨b, o, rfl, by simpa [Addr.add] using World.block_lt_of_cell? W _ hu, fun j u hu => ?_⟩
      have := hget j u hu
      rwa [Addr.add_lit] at this
    · obtain ⟨cs', hc', ht'⟩ := hi i (by omega)
      obtain ⟨_, hlen, hat⟩ := World.cells?_some hc'
      refine ⟨k, (D i, Pl i), ?_⟩
      rw [show ((((List.range (n0 * Try.prog.cellsOf e)).map fun j => (W.cell? (a.add j)).getD undef).drop (i * Try.prog.cellsOf e)).take (Try.prog.cellsOf e)) = cs' from ?_]
      · exact ht'
      · have hle : (i + 1) * Try.prog.cellsOf e ≤ n0 * Try.prog.cellsOf e := Nat.mul_le_mul_right _ hin
        rw [Nat.add_mul, Nat.one_mul] at hle
        apply List.ext_getElem?
        intro q
        by_cases hq : q < Try.prog.cellsOf e
        · have h1 := hat q hq
          rw [add_add] at h1
          have h2 : cs'[q]? = some (cs'[q]'(by omega)) := List.getElem?_eq_getElem _
          rw [List.getElem?_take_of_lt hq, List.getElem?_drop, List.getElem?_map, List.getElem?_range (by omega), Option.map_some, h1, h2]
          rfl
        · rw [List.getElem?_eq_none (by simp; omega), List.getElem?_eq_none (by omega)]
theorem trod_bool {H : Type} {enc : TypeId × Value → H} {w : World} {base : Nat} {spare : Nat → Bool} {held : Bool} {n : Nat} {t : TypeId} {u : Value} {y : DataW H × List MemPlace} (ht : Try.prog.underlying t = some .bool) (h : DataW.trod enc Try.prog w base spare held n t [u] = some y) : ∃ a : Bool, u = .bool a := by
  obtain ⟨a, h1, _⟩ := DataW.trod_bool ht h
  simp at h1
  exact ⟨a, h1⟩
theorem Rd.rv {w : World} {n : Nat} {A : Option Addr} {xs : List Value} (hr : Rd w w.heap.size 1 A n xs) (h : PH) : ∀ (j : Nat) (u : Value), xs[j]? = some u → ∃ b o, A = some ⟨b, o, none⟩ ∧ b < w.heap.size ∧ rdM w none b (o + j) = some u := fun j u e => by
  have hn : 0 < n := by
    have h1 := (List.getElem?_eq_some_iff.1 e).1
    have h2 := hr.1
    omega
  obtain ⟨b, o, rfl⟩ := rd_param_addr hr hn
  obtain ⟨hb, hrd⟩ := rd_param hr hn
  exact ⟨b, o, rfl, hb, hrd j u e⟩
end Go.Proofs.Ytblikpbaeippaaa


namespace Go.Proofs.Ytblikpbaeippaaa
set_option linter.unusedVariables false
set_option linter.unusedSimpArgs false
open Go.ChangeShapes Go.WideShapes Go.ChangeAt Go.RowKit Base Px Wr
set_option maxRecDepth 20000
theorem c_int : Try.prog.cellsOf 3 = 1 := by kernel_rfl
theorem c_str : Try.prog.cellsOf 9 = 1 := by kernel_rfl
theorem c_bool : Try.prog.cellsOf 4 = 1 := by kernel_rfl
theorem Rv.par {w : World} {n : Nat} {A : Option Addr} {xs : List Value} (hr : Rd w w.heap.size 1 A n xs) (h : PH) : Rv w h A xs := fun j u e => by
  obtain ⟨b, o, h1, h2, h3⟩ := Rd.rv hr h j u e
  exact ⟨b, o, h1, .inr ⟨h2, h3⟩⟩
end Go.Proofs.Ytblikpbaeippaaa


namespace Go.Proofs.Ytblikpbaeippaaa
set_option linter.unusedVariables false
set_option linter.unusedSimpArgs false
open Go.ChangeShapes Go.WideShapes Go.ChangeAt Go.RowKit Go.Deep Base Px Wr
set_option maxRecDepth 20000
theorem zD6 {α : Type} (g : α → List Value) (m : Nat) : ∀ (L : List α) (xs : List Value), xs.length = L.length * m → (∀ i p, L[i]? = some p → (xs.drop (i * m)).take m = g p) → xs = L.flatMap g
  | [], xs, hl, _ => List.eq_nil_of_length_eq_zero (by simpa using hl)
  | p :: L, xs, hl, h => by
    have h0 := h 0 p rfl
    rw [Nat.zero_mul, List.drop_zero] at h0
    have ih := zD6 g m L (xs.drop m) (by rw [List.length_drop, hl, List.length_cons, Nat.add_mul]; omega) fun i q hq => by
      have := h (i + 1) q (by simpa using hq)
      rw [List.drop_drop, ← this, Nat.add_mul]
      congr 2
      omega
    rw [List.flatMap_cons, ← ih, ← h0, List.take_append_drop]
theorem c_strsJ : Try.prog.cellsOf 34 = 1 := by kernel_rfl
theorem c_opJ : Try.prog.cellsOf 41 = 6 := by kernel_rfl
section
variable {H : Type} {enc : TypeId × Value → H} {W : World} {b0 : Nat} {r : Reach} {v : Value} {d : DataW H} {p : List MemPlace}
theorem flat_strs : ∀ z : List (List UInt8), z.flatMap (fun p => [str p]) = z.map str
  | [] => rfl
  | a :: l => by rw [List.flatMap_cons, flat_strs l]; rfl
theorem strs_of_trod {u : Value} {fuel : Nat} {y : DataW H × List MemPlace} (hf : DataW.trod enc Try.prog W 0 (fun _ => true) true fuel 34 [u] = some y) :
    ∃ (A : Option Addr) (c : Nat) (z : List (List UInt8)), u = .slice A z.length c ∧ z.length ≤ c ∧ ∀ h, Rv W h A (z.map str) := by
  obtain ⟨A, n, c, xs, rfl, hnc, _, hr, hall⟩ := rd_of_trod Try.underlying34 (by rw [c_str]; omega) hf
  rw [c_str] at hr hall
  obtain ⟨z, hz, hzq⟩ := zD8 (fun i (p : List UInt8) => (xs.drop (i * 1)).take 1 = [str p]) n fun i hi => by
    obtain ⟨f, y, hy⟩ := hall i hi
    have hl : ((xs.drop (i * 1)).take 1).length = 1 := by rw [List.length_take, List.length_drop, hr.1]; omega
    match hm : (xs.drop (i * 1)).take 1, hl with
    | [c0], _ =>
      rw [hm] at hy
      obtain ⟨s, rfl, _⟩ := zD2 Try.underlying9 hy
      exact ⟨s, rfl⟩
  subst hz
  obtain rfl := zD6 (fun p => [str p]) 1 z xs hr.1 hzq
  have e : z.flatMap (fun p => [str p]) = z.map str := flat_strs z
  rw [e] at hr
  exact ⟨A, c, z, rfl, hnc, fun h => Rv.par hr h⟩
theorem open_opJ {l : List Value} (hl : l.length = 6) {f : Nat} {y : DataW H × List MemPlace} (h : DataW.trod enc Try.prog W 0 (fun _ => true) true f 41 l = some y) : ∃ p : Ojp, l = ojL p ∧ ∀ h, GoodO W h p := by
  obtain ⟨ys, m, _, _, _, hyl, hat⟩ := DataW.trod_struct Try.underlying41 h
  match l, hl with
  | [c0, c1, c2, c3, c4, c5], _ =>
    have hyl2 : ys.length = 6 := hyl
    have t0 := hat 0 ⟨_, _, _, _, _, _, _⟩ rfl
    have t1 := hat 1 ⟨_, _, _, _, _, _, _⟩ rfl
    have t2 := hat 2 ⟨_, _, _, _, _, _, _⟩ rfl
    have t3 := hat 3 ⟨_, _, _, _, _, _, _⟩ rfl
    have t4 := hat 4 ⟨_, _, _, _, _, _, _⟩ rfl
    have t5 := hat 5 ⟨_, _, _, _, _, _, _⟩ rfl
    simp only [c_int, c_str, c_bool, c_strsJ, List.drop_zero, List.drop_succ_cons, List.take_succ_cons, List.take_zero] at t0 t1 t2 t3 t4 t5
    rw [List.getElem?_eq_getElem (by omega)] at t0 t1 t2 t3 t4 t5
    obtain ⟨a0, rfl, _⟩ := zCx Try.underlying3 t0
    obtain ⟨A, cap, z, rfl, hz, hr⟩ := strs_of_trod t1
    obtain ⟨g, rfl⟩ := trod_bool Try.underlying4 t2
    obtain ⟨a3, rfl, _⟩ := zCx Try.underlying3 t3
    obtain ⟨a4, rfl, _⟩ := zCx Try.underlying3 t4
    obtain ⟨s, rfl, _⟩ := zD2 Try.underlying9 t5
    exact ⟨(⟨a0, z, g, a3, a4, s⟩, A, cap), rfl, fun h => ⟨hz, hr h⟩⟩
theorem open_script (hv : Value.okWide Try.prog W r b0 22 v) (h : DataW.Trod enc Try.prog W 0 (fun _ => true) true 22 v d p) :
    ∃ (A : Option Addr) (c : Nat) (z : List Ojp), v = .slice A z.length c ∧ z.length ≤ c ∧ ∀ h, Scr W h A z := by
  obtain ⟨A, n, c, xs, rfl, hnc, _, hr, _, hall⟩ := open_rd Try.underlying22 (by rw [c_opJ]; omega) hv h
  rw [c_opJ] at hr hall
  obtain ⟨z, hz, hzq⟩ := zD8 (fun i (p : Ojp) => (xs.drop (i * 6)).take 6 = ojL p ∧ ∀ h, GoodO W h p) n fun i hi => by
    obtain ⟨f, y, hy⟩ := hall i hi
    have hl : ((xs.drop (i * 6)).take 6).length = 6 := by rw [List.length_take, List.length_drop, hr.1]; have : (i + 1) * 6 ≤ n * 6 := Nat.mul_le_mul_right _ hi; omega
    exact open_opJ hl hy
  subst hz
  obtain rfl := zD6 ojL 6 z xs hr.1 fun i p hp => (hzq i p hp).1
  have hr1 : Rd W W.heap.size 1 A (z.length * 6) (z.flatMap ojL) := ⟨by rw [hr.1, Nat.mul_one], fun h => hr.2 (by omega)⟩
  refine ⟨A, c, z, rfl, hnc, fun h => ⟨Rv.par hr1 h, fun p hp => ?_⟩⟩
  obtain ⟨j, hj, rfl⟩ := List.getElem_of_mem hp
  exact (hzq j _ (List.getElem?_eq_getElem hj)).2 h
end
end Go.Proofs.Ytblikpbaeippaaa


namespace Go.Proofs.Ytblikpbaeippaaa
set_option linter.unusedVariables false
set_option linter.unusedSimpArgs false
open Go.ChangeShapes Go.WideShapes Go.ChangeAt Go.RowKit Go.Deep Base Px Wr
set_option maxRecDepth 20000
structure Cj where
  F : Int
  D : Bool
  K0 : Int
  K1 : Int
  M0 : List UInt8
  M1 : List UInt8
def cjL (p : Cj) : List Value := [.int .i64 p.F, .bool p.D, .int .i64 p.K0, .int .i64 p.K1, str p.M0, str p.M1]
theorem zCg (p : Cj) : (cjL p).length = 6 := rfl
theorem c_crJ : Try.prog.cellsOf 29 = 6 := by kernel_rfl
theorem c_i2J : Try.prog.cellsOf 26 = 2 := by kernel_rfl
theorem c_s2J : Try.prog.cellsOf 27 = 2 := by kernel_rfl
section
variable {H : Type} {enc : TypeId × Value → H} {W : World} {b0 : Nat} {r : Reach} {v : Value} {d : DataW H} {p : List MemPlace}
theorem open_cjL {l : List Value} (hl : l.length = 6) {f : Nat} {y : DataW H × List MemPlace} (h : DataW.trod enc Try.prog W 0 (fun _ => true) true f 29 l = some y) : ∃ p : Cj, l = cjL p ∧ p.F ≤ 9223372036854775807 ∧ -9223372036854775808 ≤ p.F := by
  obtain ⟨ys, m, _, _, _, hyl, hat⟩ := DataW.trod_struct Try.underlying29 h
  match l, hl with
  | [c0, c1, c2, c3, c4, c5], _ =>
    have hyl2 : ys.length = 4 := hyl
    have t0 := hat 0 ⟨_, _, _, _, _, _, _⟩ rfl
    have t1 := hat 1 ⟨_, _, _, _, _, _, _⟩ rfl
    have t2 := hat 2 ⟨_, _, _, _, _, _, _⟩ rfl
    have t3 := hat 3 ⟨_, _, _, _, _, _, _⟩ rfl
    simp only [c_int, c_bool, c_i2J, c_s2J, List.drop_zero, List.drop_succ_cons, List.take_succ_cons, List.take_zero] at t0 t1 t2 t3
    rw [List.getElem?_eq_getElem (by omega)] at t0 t1 t2 t3
    obtain ⟨a0, rfl, hw⟩ := zCx Try.underlying3 t0
    obtain ⟨g, rfl⟩ := trod_bool Try.underlying4 t1
    obtain ⟨zs, m2, _, _, _, hzl, hz⟩ := DataW.trod_array Try.underlying26 t2
    have z0 := hz 0 (by omega)
    have z1 := hz 1 (by omega)
    simp only [c_int, Nat.zero_mul, Nat.one_mul, List.drop_zero, List.drop_succ_cons, List.take_succ_cons, List.take_zero] at z0 z1
    rw [List.getElem?_eq_getElem (by omega)] at z0 z1
    obtain ⟨a2, rfl, _⟩ := zCx Try.underlying3 z0
    obtain ⟨a3, rfl, _⟩ := zCx Try.underlying3 z1
    obtain ⟨us, m3, _, _, _, hul, hu⟩ := DataW.trod_array Try.underlying27 t3
    have u0 := hu 0 (by omega)
    have u1 := hu 1 (by omega)
    simp only [c_str, Nat.zero_mul, Nat.one_mul, List.drop_zero, List.drop_succ_cons, List.take_succ_cons, List.take_zero] at u0 u1
    rw [List.getElem?_eq_getElem (by omega)] at u0 u1
    obtain ⟨s0, rfl, _⟩ := zD2 Try.underlying9 u0
    obtain ⟨s1, rfl, _⟩ := zD2 Try.underlying9 u1
    refine ⟨⟨a0, g, a2, a3, s0, s1⟩, rfl, ?_⟩
    have e1 : IntKind.i64.min = -9223372036854775808 := by first | rfl | decide +kernel
    have e2 : IntKind.i64.max = 9223372036854775807 := by first | rfl | decide +kernel
    simp [Lit.wf] at hw
    show a0 ≤ 9223372036854775807 ∧ -9223372036854775808 ≤ a0
    omega
theorem open_crashes (hv : Value.okWide Try.prog W r b0 23 v) (h : DataW.Trod enc Try.prog W 0 (fun _ => true) true 23 v d p) :
    ∃ (A : Option Addr) (c : Nat) (z : List Cj), v = .slice A z.length c ∧ z.length ≤ c ∧ (∀ h, Rv W h A (z.flatMap cjL)) ∧ ∀ p ∈ z, p.F ≤ 9223372036854775807 ∧ -9223372036854775808 ≤ p.F := by
  obtain ⟨A, n, c, xs, rfl, hnc, _, hr, _, hall⟩ := open_rd Try.underlying23 (by rw [c_crJ]; omega) hv h
  rw [c_crJ] at hr hall
  obtain ⟨z, hz, hzq⟩ := zD8 (fun i (p : Cj) => (xs.drop (i * 6)).take 6 = cjL p ∧ p.F ≤ 9223372036854775807 ∧ -9223372036854775808 ≤ p.F) n fun i hi => by
    obtain ⟨f, y, hy⟩ := hall i hi
    have hl : ((xs.drop (i * 6)).take 6).length = 6 := by rw [List.length_take, List.length_drop, hr.1]; have : (i + 1) * 6 ≤ n * 6 := Nat.mul_le_mul_right _ hi; omega
    exact open_cjL hl hy
  subst hz
  obtain rfl := zD6 cjL 6 z xs hr.1 fun i p hp => (hzq i p hp).1
  have hr1 : Rd W W.heap.size 1 A (z.length * 6) (z.flatMap cjL) := ⟨by rw [hr.1, Nat.mul_one], fun h => hr.2 (by omega)⟩
  refine ⟨A, c, z, rfl, hnc, fun h => Rv.par hr1 h, fun p hp => ?_⟩
  obtain ⟨j, hj, rfl⟩ := List.getElem_of_mem hp
  exact (hzq j _ (List.getElem?_eq_getElem hj)).2
end
end Go.Proofs.Ytblikpbaeippaaa

