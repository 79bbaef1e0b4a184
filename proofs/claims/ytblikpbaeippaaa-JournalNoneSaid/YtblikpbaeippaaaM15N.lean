/- Parts Jl2, Jn0, Base, Base2, joined. No condition. -/
import Derived.Test.YtblikpbaeippaaaM13N
import Derived.Test.YtblikpbaeippaaaM14N
import Derived.Test.YtblikpbaeippaaaRows
import Derived.WalkKit
import Derived.ProofKit
import Derived.OpenShut
import Derived.SizedLaws
import Derived.OpenVars
import Derived.Lib.Hide
import Derived.Deep.Fields
import Derived.Deep.Slices
import Derived.Deep.MidRow
import Derived.Laws.ResultCell
/- Walks: the laws' two devices, and awake. No condition. -/
namespace Go.Proofs.Ytblikpbaeippaaa
set_option linter.unusedVariables false
set_option linter.unusedSimpArgs false
open Go.RowKit Px Wr
theorem D2.make {h h1 h2 : PH} {a b : Nat} {da db : Dk} (ha : DS h h1 a da) (hb : DS h1 h2 b db) : D2 h h2 a da b db := by
  obtain ⟨A, c, a1, a2, a3⟩ := ha.cells
  obtain ⟨B, e, b1, b2, b3⟩ := hb.cells
  have hl := hb.le2
  have hn : ∀ x, h1.m x = none → h.m x = none := fun x q => by
    cases hk : h.m x with
    | none => rfl
    | some k => rw [ha.same _ _ hk] at q; cases q
  have hab : a ≠ b := fun r => by subst r; rw [hb.low] at a1; cases a1
  refine ⟨Nat.le_trans ha.top hb.top, fun x k e => hl.m _ _ (ha.same x k e), hab, ha.low, hn _ hb.low, A, c, B, e, hl.m _ _ a1, a2.more hl, b1, b2, fun x q => ⟨(a3 x q).1, (a3 x q).2, fun r => ?_⟩, fun x q => ⟨hn _ (b3 x q).1, fun r => ?_, (b3 x q).2⟩, fun x y qx qy r => ?_⟩
  · obtain ⟨k, hk⟩ := a2.known q
    rw [r, hb.low] at hk; cases hk
  · have := (b3 x q).1
    rw [r, a1] at this; cases this
  · obtain ⟨k, hk⟩ := a2.known qx
    have := (b3 y qy).1
    rw [← r, hk] at this; cases this
def dk0 (room : Int) : Dk := ⟨[], 0, room, -1, false⟩
theorem JS.grow {h0 h h' : PH} {j a b g : Nat} {da db : Dk} {o : Bool} (hj : JS h0 h j a b da db g o) (hl : PH.Le h h') : ∃ h1, JS h1 h' j a b da db g o ∧ PH.Le h0 h1 ∧ ∀ x k, h.top ≤ x → h'.m x = some k → h1.m x = some k := by
  obtain ⟨h1, z1, z2, z3, z4, z5⟩ := hj.d2.grow hl
  have hJ : h1.m j = some ⟨jL a b g o, 4⟩ := z2.m _ _ (by rw [PH.new_m, if_pos rfl])
  have hL := (JS.low_le h0 hj.low _).trans z2
  refine ⟨h1.del j, z1.js hJ, ⟨hL.top, fun x k e => ?_⟩, fun x k r1 r2 => ?_⟩
  · rw [PH.del_m, if_neg (fun r => by subst r; rw [hj.low] at e; cases e)]
    exact hL.m x k e
  · have := h.lt _ _ hj.cell
    rw [PH.del_m, if_neg (by omega)]
    exact z5 x k r1 r2
theorem dk0_good {room : Int} (h : 0 ≤ room ∧ room ≤ 1048576) : Good (dk0 room) := ⟨by show (0 : Int) ≤ 0; omega, by show (0 : Int) ≤ ((0 : Nat) : Int); omega, by show 0 ≤ 1048576; omega, h.1, h.2, by show (-1 : Int) ≤ _; omega⟩
theorem dk0_clean {room : Int} (h : 0 ≤ room ∧ room ≤ 1048576) : Clean (dk0 room) [] := ⟨dk0_good h, rfl, rfl, rfl⟩
set_option maxRecDepth 20000 in
theorem two_any (room : Int) (hr : 0 ≤ room ∧ room ≤ 1048576) (w0 : World) (h : PH) : PCalls Try.prog w0 9 [.int .i64 room] h fun v h' => ∃ a b, v = .tuple #[.pointer (some ⟨a, 0, none⟩), .pointer (some ⟨b, 0, none⟩)] ∧ D2 h h' a (dk0 room) b (dk0 room) := by
  refine PCalls_body Try.func9 (by kernel_rfl) rfl _ Try.ntmps9 (by kernel_rfl) (by kernel_rfl) _ Try.results9 ?_
  simp -dsimp -implicitDefEqProofs (disch := first | omega | assumption | (simp only [Option.isSome_some, Qt0]; done) | (simp only [UInt64.reduceToNat, UInt32.reduceToNat, UInt8.reduceToNat, List.length_cons, List.length_nil, List.length_append, Int.toNat_natCast] <;> omega) | fail) only [Nat.reduceLT, Nat.reduceLeDiff, Nat.reduceEqDiff, ↓reduceIte, Int.reduceLT, Int.reduceLE, Int.reduceToNat, Int.reduceEq, Int.reduceNe, Nat.reduceAdd, UInt8.reduceOfNat, UInt16.reduceOfNat, UInt32.reduceOfNat, UInt64.reduceOfNat, UInt64.reduceToNat, UInt32.reduceToNat, UInt16.reduceToNat, UInt8.reduceToNat, Int.reduceAdd, Int.reduceSub, Int.reduceMul, Nat.reduceMul, Qp0, Qp1, Ql0, Qe0]
  refine (new_ok w0 h room hr).mono ?_
  rintro v h1 ⟨a, rfl, ha⟩
  simp -dsimp -implicitDefEqProofs (disch := first | omega | assumption | (simp only [Option.isSome_some, Qt0]; done) | (simp only [UInt64.reduceToNat, UInt32.reduceToNat, UInt8.reduceToNat, List.length_cons, List.length_nil, List.length_append, Int.toNat_natCast] <;> omega) | fail) only [Nat.reduceLT, Nat.reduceLeDiff, Nat.reduceEqDiff, ↓reduceIte, Int.reduceLT, Int.reduceLE, Int.reduceToNat, Int.reduceEq, Int.reduceNe, Nat.reduceAdd, UInt8.reduceOfNat, UInt16.reduceOfNat, UInt32.reduceOfNat, UInt64.reduceOfNat, UInt64.reduceToNat, UInt32.reduceToNat, UInt16.reduceToNat, UInt8.reduceToNat, Int.reduceAdd, Int.reduceSub, Int.reduceMul, Nat.reduceMul, Qp0, Qp1, Ql0, Qe0]
  refine (new_ok w0 h1 room hr).mono ?_
  rintro v h2 ⟨b, rfl, hb⟩
  simp -dsimp -implicitDefEqProofs (disch := first | omega | assumption | (simp only [Option.isSome_some, Qt0]; done) | (simp only [UInt64.reduceToNat, UInt32.reduceToNat, UInt8.reduceToNat, List.length_cons, List.length_nil, List.length_append, Int.toNat_natCast] <;> omega) | fail) only [Nat.reduceLT, Nat.reduceLeDiff, Nat.reduceEqDiff, ↓reduceIte, Int.reduceLT, Int.reduceLE, Int.reduceToNat, Int.reduceEq, Int.reduceNe, Nat.reduceAdd, UInt8.reduceOfNat, UInt16.reduceOfNat, UInt32.reduceOfNat, UInt64.reduceOfNat, UInt64.reduceToNat, UInt32.reduceToNat, UInt16.reduceToNat, UInt8.reduceToNat, Int.reduceAdd, Int.reduceSub, Int.reduceMul, Nat.reduceMul, Qp0, Qp1, Ql0, Qe0]
  exact ⟨_, PH.Le.refl _, a, b, rfl, D2.make ha hb⟩
theorem jcrash2_any {h0 : PH} {a b : Nat} {da db : Dk} (k : Int) (mask : List UInt8) (hm : mask.length ≤ 1000000) (w0 : World) (h : PH) (hd : D2 h0 h a da b db) (g : Good da) : PCalls Try.prog w0 15 [.pointer (some ⟨a, 0, none⟩), .int .i64 k, str mask] h fun v h' => D2 h0 h' a (da.crash k mask) b db := by
  obtain ⟨h1, q1, q2, q3⟩ := hd.use
  exact (crash_any h1 a da w0 h q1 g k mask hm).mono fun v h' r => q3 h' _ r
theorem Pres.crash {d : Dk} {g : Nat} {l : List (List UInt8)} {ps : List Pt} (p : Pres d g l ps) (k : Int) (mask : List UInt8) : Pres (d.crash k mask) g l ps :=
  ⟨crash_clean p.clean.good p.clean.txt p.clean.safe k mask, p.ok, p.ord, p.gen, p.recs, p.last⟩
theorem payload_36 {x : Pt} (h : x.Ok) : (payload x).length ≤ 36 + x.t.length := by
  have h1 := numB_len9 (n := x.k) (by have := h.k1; omega)
  have h2 := numB_len9 (n := x.g) (by have := h.g1; omega)
  have h3 := numB_len9 (n := x.p) (by have := h.p1; omega)
  have h4 := numB_len9 (n := x.t.length) (by have := h.t1; omega)
  unfold payload
  simp only [List.length_append]; omega
theorem seal_93 {x : Pt} (h : x.Ok) : (sealP x).length ≤ 93 + 2 * x.t.length := by
  have := payload_36 h
  rw [sealP_len]; omega
theorem start_ok0 {d : Dk} (c : Clean d []) (hf : d.fuse < 0) (hr : 1000 ≤ d.room) : (startM d 0 []).2 = none := by
  have hl : d.l = [] := c.txt
  have hM : startM d 0 [] = andK (d.cut 0) fun d1 => writeM d1 (0 + 1) 0 (flatP (begP (0 + 1) d1.safeV.toNat [])) := rfl
  have hcut := cut_ok c.up hf 0 (by omega)
  have h0 : ((0 : Nat) : Int) = 0 := rfl
  rw [h0] at hcut
  rw [hM]
  unfold andK
  rw [hcut]
  simp only
  have hs := c.safe
  have hsf : (if (0 : Int) < d.safe then (0 : Int) else d.safe) = 0 := by
    rw [hs]; simp
  rw [hsf, hl]
  have hsv : (⟨List.take 0 [], 0, d.room, d.fuse, d.down⟩ : Dk).safeV.toNat = 0 := by unfold Dk.safeV; split <;> rfl
  rw [hsv]
  have k1 : Pt.Ok ⟨1, 0 + 1, 0, []⟩ := mark_ok (by omega) (by omega) (by omega) 1 (.inl rfl)
  have k3 : Pt.Ok ⟨3, 0 + 1, 0, []⟩ := mark_ok (by omega) (by omega) (by omega) 3 (.inr (.inl rfl))
  have h1 := seal_93 k1
  have h3 := seal_93 k3
  have hbl : (flatP (begP (0 + 1) 0 [])).length ≤ 186 := by
    rw [flatP_beg]
    have h2 : flatP (recP (0 + 1) 0 []) = [] := rfl
    rw [h2]
    simp only [List.length_append, List.length_nil] at *; omega
  have k4 : Pt.Ok ⟨4, 0 + 1, ([] ++ flatP (begP (0 + 1) 0 [])).length, []⟩ := mark_ok (by omega) (by omega) (by rw [List.nil_append]; omega) 4 (.inr (.inr rfl))
  have h4 := seal_93 k4
  refine write_ok (by exact c.up) (by exact hf) ?_
  simp only [List.take_nil, List.length_nil] at h4 ⊢
  omega
theorem flat3 {g q : Nat} (hk : AllOk (begP g 0 [] ++ [⟨4, g, q, []⟩])) : (flatP (begP g 0 [] ++ [⟨4, g, q, []⟩])).length ≤ 279 := by
  have h1 := seal_93 (hk ⟨1, g, 0, []⟩ (by simp [begP]))
  have h2 := seal_93 (hk ⟨3, g, 0, []⟩ (by simp [begP]))
  have h3 := seal_93 (hk ⟨4, g, q, []⟩ (by simp [begP]))
  have e : flatP (begP g 0 [] ++ [⟨4, g, q, []⟩]) = sealP ⟨1, g, 0, []⟩ ++ sealP ⟨3, g, 0, []⟩ ++ sealP ⟨4, g, q, []⟩ := by
    simp [flatP, begP, recP]
  rw [e]
  simp only [List.length_append, List.length_nil] at *
  omega
theorem put_ok0 {d : Dk} {g : Nat} {hv : List (List UInt8)} {ps : List Pt} (p : Pres d g hv ps) (hf : d.fuse < 0) (hr : (((flatP ps).length + 200 : Nat) : Int) ≤ d.room) : (PutM d g false [[120]]).2 = none := by
  have hlen := good_len p.clean
  obtain ⟨g1, g2⟩ := p.g1
  have hsf : d.safeV.toNat = (flatP ps).length := by rw [safeV_up p.clean.up, p.clean.safe, Int.toNat_natCast]
  have hM : PutM d g false [[120]] = writeM d g ((flatP ps).length : Nat) (flatP (recP g (flatP ps).length [[120]])) := by
    unfold PutM
    rw [if_neg (by decide), if_neg (by decide), if_neg (by decide), if_neg (by rw [p.clean.up]; decide), hsf, p.clean.txt]
  rw [hM]
  have hk := recP_ok (g := g) (p := (flatP ps).length) (l := [[120]]) g1 g2 (by omega) (by decide)
  have h1 := seal_93 (hk ⟨2, g, (flatP ps).length, [120]⟩ (by simp [recP]))
  have e : flatP (recP g (flatP ps).length [[120]]) = sealP ⟨2, g, (flatP ps).length, [120]⟩ := by simp [flatP, recP]
  rw [e]
  simp only [List.length_cons, List.length_nil] at h1
  have h4 := seal_93 (mark_ok (g := g) (p := (d.l ++ sealP ⟨2, g, (flatP ps).length, [120]⟩).length) g1 g2 (by rw [p.clean.txt, List.length_append]; omega) 4 (.inr (.inr rfl)))
  refine write_ok p.clean.up hf ?_
  simp only [List.length_nil] at h4
  rw [p.clean.txt] at *
  omega
set_option maxRecDepth 20000 in
set_option maxHeartbeats 4000000 in
theorem awake10_any (w0 : World) (h : PH) : PCalls Try.prog w0 7 [] h fun v h' => v = .bool true ∧ PH.Le h h' := by
  refine PCalls_upL fun q0 hlq hlow hut => ?_
  refine PCalls_body Try.func7 (by kernel_rfl) rfl _ Try.ntmps7 (by kernel_rfl) (by kernel_rfl) _ Try.results7 ?_
  simp -dsimp -implicitDefEqProofs (disch := first | omega | assumption | (simp only [Option.isSome_some, Qt0]; done) | (simp only [UInt64.reduceToNat, UInt32.reduceToNat, UInt8.reduceToNat, List.length_cons, List.length_nil, List.length_append, Int.toNat_natCast] <;> omega) | fail) only [Nat.reduceLT, Nat.reduceLeDiff, Nat.reduceEqDiff, ↓reduceIte, Int.reduceLT, Int.reduceLE, Int.reduceToNat, Int.reduceEq, Int.reduceNe, Nat.reduceAdd, UInt8.reduceOfNat, UInt16.reduceOfNat, UInt32.reduceOfNat, UInt64.reduceOfNat, UInt64.reduceToNat, UInt32.reduceToNat, UInt16.reduceToNat, UInt8.reduceToNat, Int.reduceAdd, Int.reduceSub, Int.reduceMul, Nat.reduceMul, Qp0, Qp1, Ql0, Qe0]
  refine (two_any 10000 (by omega) w0 q0).mono ?_
  rintro v q1 ⟨a, b, rfl, hD⟩
  have hg0 := dk0_good (room := 10000) (by omega)
  have hc0 := dk0_clean (room := 10000) (by omega)
  simp -dsimp -implicitDefEqProofs (disch := first | omega | assumption | (simp only [Option.isSome_some, Qt0]; done) | (simp only [UInt64.reduceToNat, UInt32.reduceToNat, UInt8.reduceToNat, List.length_cons, List.length_nil, List.length_append, Int.toNat_natCast] <;> omega) | fail) only [Nat.reduceLT, Nat.reduceLeDiff, Nat.reduceEqDiff, ↓reduceIte, Int.reduceLT, Int.reduceLE, Int.reduceToNat, Int.reduceEq, Int.reduceNe, Nat.reduceAdd, UInt8.reduceOfNat, UInt16.reduceOfNat, UInt32.reduceOfNat, UInt64.reduceOfNat, UInt64.reduceToNat, UInt32.reduceToNat, UInt16.reduceToNat, UInt8.reduceToNat, Int.reduceAdd, Int.reduceSub, Int.reduceMul, Nat.reduceMul, Qp0, Qp1, Ql0, Qe0]
  refine (jOpen_any w0 q1 hD hg0 hg0).mono ?_
  rintro v q2 ⟨da', db', e, sw, g, l, hop, hov⟩
  obtain ⟨rfl, rfl, rfl, rfl, rfl, rfl⟩ := open_empty hc0 hc0 hop
  have hst := start_ok0 hc0 (by show (-1 : Int) < 0; omega) (by show (1000 : Int) ≤ 10000; omega)
  rw [hst] at hov
  obtain ⟨j, V, h1, rfl, hl1, hj, hV, hVn⟩ := hov
  rw [if_pos rfl] at hj
  rcases start_out hc0 (g := 0) (l := []) (by omega) (fun t ht => by cases ht) (by decide) with ⟨h5, _⟩ | ⟨d1, ext, c1, r1, f1, x1, ⟨q, rfl⟩, wo⟩
  · rw [hst] at h5; cases h5
  rw [hst] at wo
  have hp : Pres (startM (dk0 10000) 0 []).1 1 [] (begP 1 0 [] ++ [⟨4, 1, q, []⟩]) := by
    rcases wo.out with ⟨_, hc⟩ | ⟨h4, _⟩ | ⟨h5, _⟩
    · exact Pres.begun x1 hc
    · cases h4
    · cases h5
  have hroom : (startM (dk0 10000) 0 []).1.room = 10000 := by
    rcases wo.room with h | h
    · rw [h, r1]; rfl
    · rw [hp.clean.up] at h; cases h
  have hfuse : (startM (dk0 10000) 0 []).1.fuse < 0 := (wo.fuse (f1 (by show (-1 : Int) < 0; omega))).1
  generalize (startM (dk0 10000) 0 []).1 = db at *
  obtain ⟨A, c, rfl, hc⟩ := hV.len
  simp -dsimp -implicitDefEqProofs (disch := first | omega | assumption | (simp only [Option.isSome_some, Qt0]; done) | (simp only [UInt64.reduceToNat, UInt32.reduceToNat, UInt8.reduceToNat, List.length_cons, List.length_nil, List.length_append, Int.toNat_natCast] <;> omega) | fail) only [Nat.reduceLT, Nat.reduceLeDiff, Nat.reduceEqDiff, ↓reduceIte, Int.reduceLT, Int.reduceLE, Int.reduceToNat, Int.reduceEq, Int.reduceNe, Nat.reduceAdd, UInt8.reduceOfNat, UInt16.reduceOfNat, UInt32.reduceOfNat, UInt64.reduceOfNat, UInt64.reduceToNat, UInt32.reduceToNat, UInt16.reduceToNat, UInt8.reduceToNat, Int.reduceAdd, Int.reduceSub, Int.reduceMul, Nat.reduceMul, Qp0, Qp1, Ql0, Qe0]
  refine (jgen_any w0 q2 hj).mono ?_
  rintro v q3 ⟨rfl, rfl⟩
  simp -dsimp -implicitDefEqProofs (disch := first | omega | assumption | (simp only [Option.isSome_some, Qt0]; done) | (simp only [UInt64.reduceToNat, UInt32.reduceToNat, UInt8.reduceToNat, List.length_cons, List.length_nil, List.length_append, Int.toNat_natCast] <;> omega) | fail) only [Nat.reduceLT, Nat.reduceLeDiff, Nat.reduceEqDiff, ↓reduceIte, Int.reduceLT, Int.reduceLE, Int.reduceToNat, Int.reduceEq, Int.reduceNe, Nat.reduceAdd, UInt8.reduceOfNat, UInt16.reduceOfNat, UInt32.reduceOfNat, UInt64.reduceOfNat, UInt64.reduceToNat, UInt32.reduceToNat, UInt16.reduceToNat, UInt8.reduceToNat, Int.reduceAdd, Int.reduceSub, Int.reduceMul, Nat.reduceMul, Qp0, Qp1, Ql0, Qe0]
  refine Does_one (v := str [120]) el_strJ rfl (by omega) fun nb hnb => ?_
  obtain ⟨h2, hj2, hle2, hrow⟩ := hj.grow ((PH.Le.refl q3).new nb ⟨[str [120]], 1⟩ hnb)
  simp -dsimp -implicitDefEqProofs (disch := first | omega | assumption | (simp only [Option.isSome_some, Qt0]; done) | (simp only [UInt64.reduceToNat, UInt32.reduceToNat, UInt8.reduceToNat, List.length_cons, List.length_nil, List.length_append, Int.toNat_natCast] <;> omega) | fail) only [Nat.reduceLT, Nat.reduceLeDiff, Nat.reduceEqDiff, ↓reduceIte, Int.reduceLT, Int.reduceLE, Int.reduceToNat, Int.reduceEq, Int.reduceNe, Nat.reduceAdd, UInt8.reduceOfNat, UInt16.reduceOfNat, UInt32.reduceOfNat, UInt64.reduceOfNat, UInt64.reduceToNat, UInt32.reduceToNat, UInt16.reduceToNat, UInt8.reduceToNat, Int.reduceAdd, Int.reduceSub, Int.reduceMul, Nat.reduceMul, Qp0, Qp1, Ql0, Qe0]
  have hnr : h2.m nb = some ⟨[str [120]], 1⟩ := hrow nb _ hnb (by rw [PH.new_m, if_pos rfl])
  have hown : Own h2 1 (.slice (some ⟨nb, 0, none⟩) 1 1) 1 [str [120]] := ⟨rfl, .inr ⟨nb, 1, rfl, Nat.le_refl _, by unfold maxLen; omega, hnr⟩⟩
  have hps := flat3 hp.ok
  have hPut := put_ok0 hp hfuse (by rw [hroom]; omega)
  obtain ⟨ext, hx, hwo⟩ := pres_put (l := [[120]]) hp (by decide) (by decide) (by decide)
  refine (jPut_any (some ⟨nb, 0, none⟩) 1 [[120]] w0 _ hj2 hp.clean.good hp.g1 (Rv.own hown) (by decide) (fun h4 _ p hp40 => ?_)).mono ?_
  · have := flatP_recs_len (g := 1) (p := p) (l := [[120]]) (by omega) (by omega) (by omega) h4
    simp only [List.length_cons, List.length_nil] at this
    omega
  have hp2 : Pres (PutM db 1 false [[120]]).1 1 [[120]] (begP 1 0 [] ++ [⟨4, 1, q, []⟩] ++ ext) := by
    rcases hwo.out with ⟨_, hc⟩ | ⟨h4, _⟩ | ⟨h5, _⟩
    · exact Pres.more hp.ok hp.ord hp.gen hp.recs hx hc
    · rw [hPut] at h4; cases h4
    · rw [hPut] at h5; cases h5
  rw [hPut]
  generalize (PutM db 1 false [[120]]).1 = dB at *
  rintro v q4 ⟨rfl, hj3⟩
  simp -dsimp -implicitDefEqProofs (disch := first | omega | assumption | (simp only [Option.isSome_some, Qt0]; done) | (simp only [UInt64.reduceToNat, UInt32.reduceToNat, UInt8.reduceToNat, List.length_cons, List.length_nil, List.length_append, Int.toNat_natCast] <;> omega) | fail) only [Nat.reduceLT, Nat.reduceLeDiff, Nat.reduceEqDiff, ↓reduceIte, Int.reduceLT, Int.reduceLE, Int.reduceToNat, Int.reduceEq, Int.reduceNe, Nat.reduceAdd, UInt8.reduceOfNat, UInt16.reduceOfNat, UInt32.reduceOfNat, UInt64.reduceOfNat, UInt64.reduceToNat, UInt32.reduceToNat, UInt16.reduceToNat, UInt8.reduceToNat, Int.reduceAdd, Int.reduceSub, Int.reduceMul, Nat.reduceMul, Qp0, Qp1, Ql0, Qe0]
  have hd3 : D2 q0 q4 a (dk0 10000) b dB := hj3.d2.symm.base ((hl1.trans hle2).trans (JS.low_le _ hj3.low _))
  refine (jcrash2_any 0 [] (by decide) w0 q4 hd3 hg0).mono ?_
  intro v q5 hd4
  simp -dsimp -implicitDefEqProofs (disch := first | omega | assumption | (simp only [Option.isSome_some, Qt0]; done) | (simp only [UInt64.reduceToNat, UInt32.reduceToNat, UInt8.reduceToNat, List.length_cons, List.length_nil, List.length_append, Int.toNat_natCast] <;> omega) | fail) only [Nat.reduceLT, Nat.reduceLeDiff, Nat.reduceEqDiff, ↓reduceIte, Int.reduceLT, Int.reduceLE, Int.reduceToNat, Int.reduceEq, Int.reduceNe, Nat.reduceAdd, UInt8.reduceOfNat, UInt16.reduceOfNat, UInt32.reduceOfNat, UInt64.reduceOfNat, UInt64.reduceToNat, UInt32.reduceToNat, UInt16.reduceToNat, UInt8.reduceToNat, Int.reduceAdd, Int.reduceSub, Int.reduceMul, Nat.reduceMul, Qp0, Qp1, Ql0, Qe0]
  refine (jcrash2_any 0 [] (by decide) w0 q5 hd4.symm hp2.clean.good).mono ?_
  intro v q6 hd5
  have hp3 := hp2.crash 0 []
  have hc3 := crash_clean hc0.good hc0.txt hc0.safe 0 []
  generalize dB.crash 0 [] = dC at *
  generalize (dk0 10000).crash 0 [] = dA at *
  simp -dsimp -implicitDefEqProofs (disch := first | omega | assumption | (simp only [Option.isSome_some, Qt0]; done) | (simp only [UInt64.reduceToNat, UInt32.reduceToNat, UInt8.reduceToNat, List.length_cons, List.length_nil, List.length_append, Int.toNat_natCast] <;> omega) | fail) only [Nat.reduceLT, Nat.reduceLeDiff, Nat.reduceEqDiff, ↓reduceIte, Int.reduceLT, Int.reduceLE, Int.reduceToNat, Int.reduceEq, Int.reduceNe, Nat.reduceAdd, UInt8.reduceOfNat, UInt16.reduceOfNat, UInt32.reduceOfNat, UInt64.reduceOfNat, UInt64.reduceToNat, UInt32.reduceToNat, UInt16.reduceToNat, UInt8.reduceToNat, Int.reduceAdd, Int.reduceSub, Int.reduceMul, Nat.reduceMul, Qp0, Qp1, Ql0, Qe0]
  refine (jOpen_any w0 q6 hd5.symm hc3.good hp3.clean.good).low.mono ?_
  rintro v q7 ⟨⟨dA', dC', e, sw, g, l, hop, hov⟩, hlow7⟩
  obtain ⟨rfl, rfl, rfl, rfl, rfl, rfl⟩ := open_right hp3 hc3.up (by rw [hc3.txt]; exact Old.nil 1) hop
  obtain ⟨j2, V2, h3, rfl, hl3, hj4, hV2, _⟩ := hov
  obtain ⟨A2, c2, rfl, hcc2⟩ := hV2.len
  rw [if_pos rfl] at hj4
  have hrv : Rv w0 q7 A2 [str [120]] := (Rv.own hV2).more hj4.le
  obtain ⟨b2, o2, rfl⟩ := hrv.addr (by decide)
  have hrd : rd w0 q7 ⟨b2, o2, none⟩ = some (str [120]) := by rw [rd_M]; exact hrv.get hlow7 (j := 0) rfl
  simp -dsimp -implicitDefEqProofs (disch := first | omega | assumption | (simp only [Option.isSome_some, Qt0]; done) | (simp only [UInt64.reduceToNat, UInt32.reduceToNat, UInt8.reduceToNat, List.length_cons, List.length_nil, List.length_append, Int.toNat_natCast] <;> omega) | fail) only [Nat.reduceLT, Nat.reduceLeDiff, Nat.reduceEqDiff, ↓reduceIte, Int.reduceLT, Int.reduceLE, Int.reduceToNat, Int.reduceEq, Int.reduceNe, Nat.reduceAdd, UInt8.reduceOfNat, UInt16.reduceOfNat, UInt32.reduceOfNat, UInt64.reduceOfNat, UInt64.reduceToNat, UInt32.reduceToNat, UInt16.reduceToNat, UInt8.reduceToNat, Int.reduceAdd, Int.reduceSub, Int.reduceMul, Nat.reduceMul, Qp0, Qp1, Ql0, Qe0, hrd]
  exact ⟨q7, PH.Le.refl _, trivial, (hlq.trans hl3).trans hj4.le⟩
end Go.Proofs.Ytblikpbaeippaaa


/- Walks: a journal over one device or over devices that aren't there; the journal that isn't there. No condition. -/
namespace Go.Proofs.Ytblikpbaeippaaa
set_option linter.unusedVariables false
set_option linter.unusedSimpArgs false
open Go.RowKit Px Wr
namespace Px
section
variable {P : Program} {w0 : World} {N : Nat}
/-- A pointer beside itself. -/
theorem OW_ptrEq {d : Option Tmp} {ty t u : TypeId} {pos : String} {af : Array Edge} {x y : Tmp} {a n : Nat} {f : Fr} {h : PH} {K : Fr → PH → Prop} (hd : dstOk N d = true) (hu : ptrB P t = true) (hz : szOf P (P.pointee t) = some n) (hn : n ≠ 0) (hx : f x = some (.pointer (some ⟨a, 0, none⟩))) (hy : f y = some (.pointer (some ⟨a, 0, none⟩)))
    (hk : K (f.put d (.bool true)) h) : OW P w0 N ⟨d, .binOp .eql t (.tmp x) (.tmp y) u, ty, pos, af, none⟩ f h K := by
  refine OW_value (v := .bool true) hd (fun ac w fs s => ?_) hk
  have e1 : ac.eval (.tmp x) = .pointer (some ⟨a, 0, none⟩) := ev_sound (x := .tmp x) fs hx
  have e2 : ac.eval (.tmp y) = .pointer (some ⟨a, 0, none⟩) := ev_sound (x := .tmp y) fs hy
  have hsz := run_sizeOf (P := P) hz w
  have hue := ptr_parts hu
  have hsa : (sameAddr ⟨a, 0, none⟩ ⟨a, 0, none⟩).run P w = .ok true w := by
    simp [sameAddr]
  have hrun : (binS .eql t (.tmp x) (.tmp y) (.pointer (some ⟨a, 0, none⟩)) (.pointer (some ⟨a, 0, none⟩))).run P w = .ok (.bool true) w := by
    have h1 : ∀ d, (Op.equalIn (d + 1) t (.pointer (some ⟨a, 0, none⟩)) (.pointer (some ⟨a, 0, none⟩))).run P w = .ok true w := fun d => by
      simp [Op.equalIn, run_underlying hue, hsz, hn, hsa]
    unfold binS eqGuard
    simp only [binOp]
    simp [Op.equal, Op.maxDepth, h1 9999]
  have hex : execOp ac.eval ⟨d, .binOp .eql t (.tmp x) (.tmp y) u, ty, pos, af, none⟩ = (do pure (Next.value (← binS .eql t (.tmp x) (.tmp y) (ac.eval (.tmp x)) (ac.eval (.tmp y))))) := rfl
  rw [hex, e1, e2]
  simp only [Sem.run_bind, hrun, Result.andThen_ok, Sem.run_pure]
end
end Px
/-- Open says nothing but an error. -/
def OpenE (h h' : PH) (v : Value) (k : Int) : Prop := ∃ e3, v = .tuple #[.pointer none, .slice none 0 0, e3] ∧ EC h' e3 (some k) ∧ PH.Le h h'
set_option maxRecDepth 20000 in
set_option maxHeartbeats 1000000 in
theorem open_nilL (B : Option Addr) (w0 : World) (h : PH) : PCalls Try.prog w0 10 [.pointer none, .pointer B] h fun v h' => OpenE h h' v 5 := by
  refine PCalls_bodyW Try.func10 (by kernel_rfl) rfl _ Try.ntmps10 (by kernel_rfl) _ Try.results10 ?_
  refine PW_cutAt [(), (), ()] (fun f q => False) (by kernel_rfl) (by kernel_rfl) ?_ (fun f q hM => hM.elim)
  dsimp only [firstN_seq, firstN_nil]
  have hdn := @down_nil w0 h
  simp -dsimp -implicitDefEqProofs (disch := first | omega | assumption | (simp only [Option.isSome_some, Qt0]; done) | (simp only [UInt64.reduceToNat, UInt32.reduceToNat, UInt8.reduceToNat, List.length_cons, List.length_nil, List.length_append, Int.toNat_natCast] <;> omega) | fail) only [Nat.reduceLT, Nat.reduceLeDiff, Nat.reduceEqDiff, ↓reduceIte, Int.reduceLT, Int.reduceLE, Int.reduceToNat, Int.reduceEq, Int.reduceNe, Nat.reduceAdd, UInt8.reduceOfNat, UInt16.reduceOfNat, UInt32.reduceOfNat, UInt64.reduceOfNat, UInt64.reduceToNat, UInt32.reduceToNat, UInt16.reduceToNat, UInt8.reduceToNat, Int.reduceAdd, Int.reduceSub, Int.reduceMul, Nat.reduceMul, Qp0, Qp1, Ql0, Qe0, thenK_normal]
  refine hdn.mono ?_
  rintro v hz ⟨rfl, hz'⟩
  obtain rfl := hz'.symm
  simp -dsimp -implicitDefEqProofs (disch := first | omega | assumption | (simp only [Option.isSome_some, Qt0]; done) | (simp only [UInt64.reduceToNat, UInt32.reduceToNat, UInt8.reduceToNat, List.length_cons, List.length_nil, List.length_append, Int.toNat_natCast] <;> omega) | fail) only [Nat.reduceLT, Nat.reduceLeDiff, Nat.reduceEqDiff, ↓reduceIte, Int.reduceLT, Int.reduceLE, Int.reduceToNat, Int.reduceEq, Int.reduceNe, Nat.reduceAdd, UInt8.reduceOfNat, UInt16.reduceOfNat, UInt32.reduceOfNat, UInt64.reduceOfNat, UInt64.reduceToNat, UInt32.reduceToNat, UInt16.reduceToNat, UInt8.reduceToNat, Int.reduceAdd, Int.reduceSub, Int.reduceMul, Nat.reduceMul, Qp0, Qp1, Ql0, Qe0]
  refine (jbad_any (some 5) (codeV 5) w0 h ⟨.code 5, rfl, rfl⟩).mono ?_
  rintro v hb ⟨e3, rfl, hec, hlb⟩
  simp -dsimp -implicitDefEqProofs (disch := first | omega | assumption | (simp only [Option.isSome_some, Qt0]; done) | (simp only [UInt64.reduceToNat, UInt32.reduceToNat, UInt8.reduceToNat, List.length_cons, List.length_nil, List.length_append, Int.toNat_natCast] <;> omega) | fail) only [Nat.reduceLT, Nat.reduceLeDiff, Nat.reduceEqDiff, ↓reduceIte, Int.reduceLT, Int.reduceLE, Int.reduceToNat, Int.reduceEq, Int.reduceNe, Nat.reduceAdd, UInt8.reduceOfNat, UInt16.reduceOfNat, UInt32.reduceOfNat, UInt64.reduceOfNat, UInt64.reduceToNat, UInt32.reduceToNat, UInt16.reduceToNat, UInt8.reduceToNat, Int.reduceAdd, Int.reduceSub, Int.reduceMul, Nat.reduceMul, Qp0, Qp1, Ql0, Qe0, thenK_normal]
  exact ⟨_, PH.Le.refl _, e3, rfl, hec, hlb⟩
set_option maxRecDepth 20000 in
set_option maxHeartbeats 1000000 in
theorem open_nilR {h0 : PH} {a : Nat} {da : Dk} (w0 : World) (h : PH) (hd : DS h0 h a da) (hu : da.down = false) : PCalls Try.prog w0 10 [.pointer (some ⟨a, 0, none⟩), .pointer none] h fun v h' => OpenE h h' v 5 := by
  refine PCalls_bodyW Try.func10 (by kernel_rfl) rfl _ Try.ntmps10 (by kernel_rfl) _ Try.results10 ?_
  refine PW_cutAt [(), (), ()] (fun f q => False) (by kernel_rfl) (by kernel_rfl) ?_ (fun f q hM => hM.elim)
  dsimp only [firstN_seq, firstN_nil]
  have hdn := @down_nil w0 h
  have hda := down_any h0 a da w0 h hd
  rw [hu] at hda
  simp -dsimp -implicitDefEqProofs (disch := first | omega | assumption | (simp only [Option.isSome_some, Qt0]; done) | (simp only [UInt64.reduceToNat, UInt32.reduceToNat, UInt8.reduceToNat, List.length_cons, List.length_nil, List.length_append, Int.toNat_natCast] <;> omega) | fail) only [Nat.reduceLT, Nat.reduceLeDiff, Nat.reduceEqDiff, ↓reduceIte, Int.reduceLT, Int.reduceLE, Int.reduceToNat, Int.reduceEq, Int.reduceNe, Nat.reduceAdd, UInt8.reduceOfNat, UInt16.reduceOfNat, UInt32.reduceOfNat, UInt64.reduceOfNat, UInt64.reduceToNat, UInt32.reduceToNat, UInt16.reduceToNat, UInt8.reduceToNat, Int.reduceAdd, Int.reduceSub, Int.reduceMul, Nat.reduceMul, Qp0, Qp1, Ql0, Qe0, thenK_normal]
  refine hda.mono ?_
  rintro v hz ⟨rfl, hz'⟩
  obtain rfl := hz'.symm
  simp -dsimp -implicitDefEqProofs (disch := first | omega | assumption | (simp only [Option.isSome_some, Qt0]; done) | (simp only [UInt64.reduceToNat, UInt32.reduceToNat, UInt8.reduceToNat, List.length_cons, List.length_nil, List.length_append, Int.toNat_natCast] <;> omega) | fail) only [Nat.reduceLT, Nat.reduceLeDiff, Nat.reduceEqDiff, ↓reduceIte, Int.reduceLT, Int.reduceLE, Int.reduceToNat, Int.reduceEq, Int.reduceNe, Nat.reduceAdd, UInt8.reduceOfNat, UInt16.reduceOfNat, UInt32.reduceOfNat, UInt64.reduceOfNat, UInt64.reduceToNat, UInt32.reduceToNat, UInt16.reduceToNat, UInt8.reduceToNat, Int.reduceAdd, Int.reduceSub, Int.reduceMul, Nat.reduceMul, Qp0, Qp1, Ql0, Qe0, thenK_normal]
  refine hdn.mono ?_
  rintro v hz ⟨rfl, hz'⟩
  obtain rfl := hz'.symm
  simp -dsimp -implicitDefEqProofs (disch := first | omega | assumption | (simp only [Option.isSome_some, Qt0]; done) | (simp only [UInt64.reduceToNat, UInt32.reduceToNat, UInt8.reduceToNat, List.length_cons, List.length_nil, List.length_append, Int.toNat_natCast] <;> omega) | fail) only [Nat.reduceLT, Nat.reduceLeDiff, Nat.reduceEqDiff, ↓reduceIte, Int.reduceLT, Int.reduceLE, Int.reduceToNat, Int.reduceEq, Int.reduceNe, Nat.reduceAdd, UInt8.reduceOfNat, UInt16.reduceOfNat, UInt32.reduceOfNat, UInt64.reduceOfNat, UInt64.reduceToNat, UInt32.reduceToNat, UInt16.reduceToNat, UInt8.reduceToNat, Int.reduceAdd, Int.reduceSub, Int.reduceMul, Nat.reduceMul, Qp0, Qp1, Ql0, Qe0]
  refine (jbad_any (some 5) (codeV 5) w0 h ⟨.code 5, rfl, rfl⟩).mono ?_
  rintro v hb ⟨e3, rfl, hec, hlb⟩
  simp -dsimp -implicitDefEqProofs (disch := first | omega | assumption | (simp only [Option.isSome_some, Qt0]; done) | (simp only [UInt64.reduceToNat, UInt32.reduceToNat, UInt8.reduceToNat, List.length_cons, List.length_nil, List.length_append, Int.toNat_natCast] <;> omega) | fail) only [Nat.reduceLT, Nat.reduceLeDiff, Nat.reduceEqDiff, ↓reduceIte, Int.reduceLT, Int.reduceLE, Int.reduceToNat, Int.reduceEq, Int.reduceNe, Nat.reduceAdd, UInt8.reduceOfNat, UInt16.reduceOfNat, UInt32.reduceOfNat, UInt64.reduceOfNat, UInt64.reduceToNat, UInt32.reduceToNat, UInt16.reduceToNat, UInt8.reduceToNat, Int.reduceAdd, Int.reduceSub, Int.reduceMul, Nat.reduceMul, Qp0, Qp1, Ql0, Qe0, thenK_normal]
  exact ⟨_, PH.Le.refl _, e3, rfl, hec, hlb⟩
set_option maxRecDepth 20000 in
set_option maxHeartbeats 1000000 in
theorem open_same {h0 : PH} {a : Nat} {da : Dk} (w0 : World) (h : PH) (hd : DS h0 h a da) (hu : da.down = false) : PCalls Try.prog w0 10 [.pointer (some ⟨a, 0, none⟩), .pointer (some ⟨a, 0, none⟩)] h fun v h' => OpenE h h' v 1 := by
  refine PCalls_bodyW Try.func10 (by kernel_rfl) rfl _ Try.ntmps10 (by kernel_rfl) _ Try.results10 ?_
  have hda := down_any h0 a da w0 h hd
  rw [hu] at hda
  refine PW_cutAt [(), (), ()] (fun f q => h = q ∧ f 0 = some (.pointer (some ⟨a, 0, none⟩)) ∧ f 1 = some (.pointer (some ⟨a, 0, none⟩)) ∧ f 7 = some (.func (.func 24) #[] #[])) (by kernel_rfl) (by kernel_rfl) ?_ (fun f q hM => ?_)
  · dsimp only [firstN_seq, firstN_nil]
    simp -dsimp -implicitDefEqProofs (disch := first | omega | assumption | (simp only [Option.isSome_some, Qt0]; done) | (simp only [UInt64.reduceToNat, UInt32.reduceToNat, UInt8.reduceToNat, List.length_cons, List.length_nil, List.length_append, Int.toNat_natCast] <;> omega) | fail) only [Nat.reduceLT, Nat.reduceLeDiff, Nat.reduceEqDiff, ↓reduceIte, Int.reduceLT, Int.reduceLE, Int.reduceToNat, Int.reduceEq, Int.reduceNe, Nat.reduceAdd, UInt8.reduceOfNat, UInt16.reduceOfNat, UInt32.reduceOfNat, UInt64.reduceOfNat, UInt64.reduceToNat, UInt32.reduceToNat, UInt16.reduceToNat, UInt8.reduceToNat, Int.reduceAdd, Int.reduceSub, Int.reduceMul, Nat.reduceMul, Qp0, Qp1, Ql0, Qe0, thenK_normal]
    refine hda.mono ?_
    rintro v hz ⟨rfl, hz'⟩
    obtain rfl := hz'.symm
    simp -dsimp -implicitDefEqProofs (disch := first | omega | assumption | (simp only [Option.isSome_some, Qt0]; done) | (simp only [UInt64.reduceToNat, UInt32.reduceToNat, UInt8.reduceToNat, List.length_cons, List.length_nil, List.length_append, Int.toNat_natCast] <;> omega) | fail) only [Nat.reduceLT, Nat.reduceLeDiff, Nat.reduceEqDiff, ↓reduceIte, Int.reduceLT, Int.reduceLE, Int.reduceToNat, Int.reduceEq, Int.reduceNe, Nat.reduceAdd, UInt8.reduceOfNat, UInt16.reduceOfNat, UInt32.reduceOfNat, UInt64.reduceOfNat, UInt64.reduceToNat, UInt32.reduceToNat, UInt16.reduceToNat, UInt8.reduceToNat, Int.reduceAdd, Int.reduceSub, Int.reduceMul, Nat.reduceMul, Qp0, Qp1, Ql0, Qe0, thenK_normal]
    refine hda.mono ?_
    rintro v hz ⟨rfl, hz'⟩
    obtain rfl := hz'.symm
    simp -dsimp -implicitDefEqProofs (disch := first | omega | assumption | (simp only [Option.isSome_some, Qt0]; done) | (simp only [UInt64.reduceToNat, UInt32.reduceToNat, UInt8.reduceToNat, List.length_cons, List.length_nil, List.length_append, Int.toNat_natCast] <;> omega) | fail) only [Nat.reduceLT, Nat.reduceLeDiff, Nat.reduceEqDiff, ↓reduceIte, Int.reduceLT, Int.reduceLE, Int.reduceToNat, Int.reduceEq, Int.reduceNe, Nat.reduceAdd, UInt8.reduceOfNat, UInt16.reduceOfNat, UInt32.reduceOfNat, UInt64.reduceOfNat, UInt64.reduceToNat, UInt32.reduceToNat, UInt16.reduceToNat, UInt8.reduceToNat, Int.reduceAdd, Int.reduceSub, Int.reduceMul, Nat.reduceMul, Qp0, Qp1, Ql0, Qe0, thenK_normal]
    exact ⟨by first | trivial | rfl, by trivial, by trivial, by trivial⟩
  obtain ⟨rfl, f0, f1, f7⟩ := hM
  dsimp only [restN_seq, restN_nil]
  refine PW_seq (fun f' q' => False) ?_ (fun f q' hM => hM.elim)
  refine PW_seq (fun f' q' => h = q' ∧ f' 31 = some (.bool true) ∧ f' 7 = some (.func (.func 24) #[] #[])) (PW_region3 (by kernel_rfl) rfl ?_) (fun f2 q2 hM2 => ?_)
  · simp -dsimp -implicitDefEqProofs (disch := first | omega | assumption | (simp only [Option.isSome_some, Qt0]; done) | (simp only [UInt64.reduceToNat, UInt32.reduceToNat, UInt8.reduceToNat, List.length_cons, List.length_nil, List.length_append, Int.toNat_natCast] <;> omega) | fail) only [Nat.reduceLT, Nat.reduceLeDiff, Nat.reduceEqDiff, ↓reduceIte, Int.reduceLT, Int.reduceLE, Int.reduceToNat, Int.reduceEq, Int.reduceNe, Nat.reduceAdd, UInt8.reduceOfNat, UInt16.reduceOfNat, UInt32.reduceOfNat, UInt64.reduceOfNat, UInt64.reduceToNat, UInt32.reduceToNat, UInt16.reduceToNat, UInt8.reduceToNat, Int.reduceAdd, Int.reduceSub, Int.reduceMul, Nat.reduceMul, Qp0, Qp1, Ql0, Qe0, f0, f1, f7]
    refine OW_ptrEq (a := a) (n := 5) rfl (by kernel_rfl) (by kernel_rfl) (by decide) (by simp [Fr.put]) (by simp [Fr.put]) ?_
    exact ⟨by first | trivial | rfl, by first | rfl | simp [Fr.put], by simp [Fr.put, f7]⟩
  · obtain ⟨rfl, f31, f7⟩ := hM2
    refine PW_of (by kernel_rfl) ?_
    simp -dsimp -implicitDefEqProofs (disch := first | omega | assumption | (simp only [Option.isSome_some, Qt0]; done) | (simp only [UInt64.reduceToNat, UInt32.reduceToNat, UInt8.reduceToNat, List.length_cons, List.length_nil, List.length_append, Int.toNat_natCast] <;> omega) | fail) only [Nat.reduceLT, Nat.reduceLeDiff, Nat.reduceEqDiff, ↓reduceIte, Int.reduceLT, Int.reduceLE, Int.reduceToNat, Int.reduceEq, Int.reduceNe, Nat.reduceAdd, UInt8.reduceOfNat, UInt16.reduceOfNat, UInt32.reduceOfNat, UInt64.reduceOfNat, UInt64.reduceToNat, UInt32.reduceToNat, UInt16.reduceToNat, UInt8.reduceToNat, Int.reduceAdd, Int.reduceSub, Int.reduceMul, Nat.reduceMul, Qp0, Qp1, Ql0, Qe0, thenK_normal, f31, f7]
    refine (jbad_any (some 1) (codeV 1) w0 h ⟨.code 1, rfl, rfl⟩).mono ?_
    rintro v hb ⟨e3, rfl, hec, hlb⟩
    simp -dsimp -implicitDefEqProofs (disch := first | omega | assumption | (simp only [Option.isSome_some, Qt0]; done) | (simp only [UInt64.reduceToNat, UInt32.reduceToNat, UInt8.reduceToNat, List.length_cons, List.length_nil, List.length_append, Int.toNat_natCast] <;> omega) | fail) only [Nat.reduceLT, Nat.reduceLeDiff, Nat.reduceEqDiff, ↓reduceIte, Int.reduceLT, Int.reduceLE, Int.reduceToNat, Int.reduceEq, Int.reduceNe, Nat.reduceAdd, UInt8.reduceOfNat, UInt16.reduceOfNat, UInt32.reduceOfNat, UInt64.reduceOfNat, UInt64.reduceToNat, UInt32.reduceToNat, UInt16.reduceToNat, UInt8.reduceToNat, Int.reduceAdd, Int.reduceSub, Int.reduceMul, Nat.reduceMul, Qp0, Qp1, Ql0, Qe0, thenK_normal]
    exact ⟨_, PH.Le.refl _, e3, rfl, hec, hlb⟩
set_option maxRecDepth 20000 in
theorem put_nilJ (L : Value) (w0 : World) (h : PH) : PCalls Try.prog w0 12 [.pointer none, L] h fun v h' => EC h' v (some 5) ∧ PH.Le h h' := by
  refine PCalls_body Try.func12 (by kernel_rfl) rfl _ Try.ntmps12 (by kernel_rfl) (by kernel_rfl) _ Try.results12 ?_
  simp -dsimp -implicitDefEqProofs (disch := first | omega | assumption | (simp only [Option.isSome_some, Qt0]; done) | (simp only [UInt64.reduceToNat, UInt32.reduceToNat, UInt8.reduceToNat, List.length_cons, List.length_nil, List.length_append, Int.toNat_natCast] <;> omega) | fail) only [Nat.reduceLT, Nat.reduceLeDiff, Nat.reduceEqDiff, ↓reduceIte, Int.reduceLT, Int.reduceLE, Int.reduceToNat, Int.reduceEq, Int.reduceNe, Nat.reduceAdd, UInt8.reduceOfNat, UInt16.reduceOfNat, UInt32.reduceOfNat, UInt64.reduceOfNat, UInt64.reduceToNat, UInt32.reduceToNat, UInt16.reduceToNat, UInt8.reduceToNat, Int.reduceAdd, Int.reduceSub, Int.reduceMul, Nat.reduceMul, Qp0, Qp1, Ql0, Qe0]
  refine (jat_nil (some 5) (codeV 5) w0 h ⟨.code 5, rfl, rfl⟩).mono ?_
  rintro r h' ⟨h1, h2⟩
  simp -dsimp -implicitDefEqProofs (disch := first | omega | assumption | (simp only [Option.isSome_some, Qt0]; done) | (simp only [UInt64.reduceToNat, UInt32.reduceToNat, UInt8.reduceToNat, List.length_cons, List.length_nil, List.length_append, Int.toNat_natCast] <;> omega) | fail) only [Nat.reduceLT, Nat.reduceLeDiff, Nat.reduceEqDiff, ↓reduceIte, Int.reduceLT, Int.reduceLE, Int.reduceToNat, Int.reduceEq, Int.reduceNe, Nat.reduceAdd, UInt8.reduceOfNat, UInt16.reduceOfNat, UInt32.reduceOfNat, UInt64.reduceOfNat, UInt64.reduceToNat, UInt32.reduceToNat, UInt16.reduceToNat, UInt8.reduceToNat, Int.reduceAdd, Int.reduceSub, Int.reduceMul, Nat.reduceMul, Qp0, Qp1, Ql0, Qe0]
  exact ⟨_, PH.Le.refl _, h1, h2⟩
set_option maxRecDepth 20000 in
theorem start_nilJ (L : Value) (w0 : World) (h : PH) : PCalls Try.prog w0 13 [.pointer none, L] h fun v h' => EC h' v (some 5) ∧ PH.Le h h' := by
  refine PCalls_body Try.func13 (by kernel_rfl) rfl _ Try.ntmps13 (by kernel_rfl) (by kernel_rfl) _ Try.results13 ?_
  simp -dsimp -implicitDefEqProofs (disch := first | omega | assumption | (simp only [Option.isSome_some, Qt0]; done) | (simp only [UInt64.reduceToNat, UInt32.reduceToNat, UInt8.reduceToNat, List.length_cons, List.length_nil, List.length_append, Int.toNat_natCast] <;> omega) | fail) only [Nat.reduceLT, Nat.reduceLeDiff, Nat.reduceEqDiff, ↓reduceIte, Int.reduceLT, Int.reduceLE, Int.reduceToNat, Int.reduceEq, Int.reduceNe, Nat.reduceAdd, UInt8.reduceOfNat, UInt16.reduceOfNat, UInt32.reduceOfNat, UInt64.reduceOfNat, UInt64.reduceToNat, UInt32.reduceToNat, UInt16.reduceToNat, UInt8.reduceToNat, Int.reduceAdd, Int.reduceSub, Int.reduceMul, Nat.reduceMul, Qp0, Qp1, Ql0, Qe0]
  refine (jat_nil (some 5) (codeV 5) w0 h ⟨.code 5, rfl, rfl⟩).mono ?_
  rintro r h' ⟨h1, h2⟩
  simp -dsimp -implicitDefEqProofs (disch := first | omega | assumption | (simp only [Option.isSome_some, Qt0]; done) | (simp only [UInt64.reduceToNat, UInt32.reduceToNat, UInt8.reduceToNat, List.length_cons, List.length_nil, List.length_append, Int.toNat_natCast] <;> omega) | fail) only [Nat.reduceLT, Nat.reduceLeDiff, Nat.reduceEqDiff, ↓reduceIte, Int.reduceLT, Int.reduceLE, Int.reduceToNat, Int.reduceEq, Int.reduceNe, Nat.reduceAdd, UInt8.reduceOfNat, UInt16.reduceOfNat, UInt32.reduceOfNat, UInt64.reduceOfNat, UInt64.reduceToNat, UInt32.reduceToNat, UInt16.reduceToNat, UInt8.reduceToNat, Int.reduceAdd, Int.reduceSub, Int.reduceMul, Nat.reduceMul, Qp0, Qp1, Ql0, Qe0]
  exact ⟨_, PH.Le.refl _, h1, h2⟩
end Go.Proofs.Ytblikpbaeippaaa


/- Lemmas on worlds, blocks and rows that every claim of this seat uses: a law that returns true and leaves what was there alone meets its row. No condition. -/
namespace Go.Proofs.Ytblikpbaeippaaa.Base
set_option linter.unusedVariables false
set_option linter.unusedSimpArgs false
open Go.ChangeShapes Go.WideShapes Go.ChangeAt Go.RowKit Go.Deep

theorem own : ownKnob Try.prog.godebug = none := by kernel_rfl
theorem laidOut : laidOutB Try.prog = true := by kernel_rfl

/-- Block b is just these cells of type t, none of them frozen. -/
def Blk (w : World) (b : Nat) (t : TypeId) (cs : Array Value) : Prop := w.heap[b]? = some (.cells cs t (0, 0))

section
variable {w w' : World} {b : Nat} {t : TypeId} {cs : Array Value}
theorem Blk.lt (h : Blk w b t cs) : b < w.heap.size := (Array.getElem?_eq_some_iff.1 h).1
theorem Blk.cell (h : Blk w b t cs) (i : Nat) : w.cell? ⟨b, i, none⟩ = cs[i]? := cell_of_row w b i cs t (0, 0) h
theorem Blk.frozen (h : Blk w b t cs) (i : Nat) : w.frozen? ⟨b, i, none⟩ = false := by
  unfold Blk at h
  simp [World.frozen?, h]
theorem Blk.new (w : World) (t : TypeId) (cs : Array Value) : Blk (w.alloc (.cells cs t)) w.heap.size t cs := heap_alloc_new w _
theorem Blk.drew (h : Blk w b t cs) : Blk w.drew b t cs := h
theorem Blk.alloc (h : Blk w b t cs) (o : Obj) : Blk (w.alloc o) b t cs := (Below.heap_alloc w o b h.lt).trans h
theorem Blk.set_ (h : Blk w b t cs) (i : Nat) (u : Value) : Blk (w.setCell ⟨b, i, none⟩ u) b t (cs.setIfInBounds i u) := by
  unfold Blk at h ⊢
  simp [World.setCell, Array.getElem?_modify, h]
theorem Blk.below {B : Nat} (h : Blk w b t cs) (hb : Below B w w') (hlt : b < B) : Blk w' b t cs := (hb.block b hlt).trans h
theorem Blk.on (h : Blk w b t cs) (hb : Below w.heap.size w w') : Blk w' b t cs := h.below hb h.lt
theorem Blk.grown {row : Option Nat} (h : Blk w b t cs) (hb : w.grownBy w' row) (hne : some b ≠ row) : Blk w' b t cs := (hb.block b h.lt hne).trans h
end

/-- The arguments read behind the call as before it. -/
theorem args_keep {H : Type} {enc : TypeId × Value → H} {P : Program} (hl : laidOutB P = true) {W W' : World} (hb : Below W.heap.size W W') :
    ∀ {ts : List TypeId} {vs : List Value} {ds : List (DataW H)} {ps : List MemPlace}, (∀ t ∈ ts, P.readableRec t = true ∧ t < P.types.size) → (∀ x ∈ ps, x.block < W.heap.size) →
      DataW.TrodAll enc P W 0 (fun _ => true) true ts vs ds ps → DataW.TrodAll enc P W' 0 (fun b => decide (b < W.heap.size)) true ts vs ds ps
  | [], _, _, _, _, _, h => by
    obtain ⟨rfl, rfl, rfl⟩ := trodAll_nil h
    exact trodAll_mk0
  | t :: ts, _, _, _, hts, hlt, h => by
    obtain ⟨v, vs', d, ds', p, p', rfl, rfl, rfl, h0, h1⟩ := trodAll_cons h
    have ht := hts t List.mem_cons_self
    exact trodAll_cons_mk (Below.trod hl ht.1 ht.2 h0 hb fun x hx => hlt x (List.mem_append_left _ hx))
      (args_keep hl hb (fun t' ht' => hts t' (List.mem_cons_of_mem _ ht')) (fun x hx => hlt x (List.mem_append_right _ hx)) h1)

/-- A law that returns true, over a world of which nothing old has turned, meets what its row asks at the end. -/
theorem law_post {H : Type} {enc : TypeId × Value → H} {P : Program} (hl : laidOutB P = true) {fn : Func} {s : ChangeSpec} {W W' : World} {args : Array Value} {ds gs : List (DataW H)} {before : List MemPlace} {tb : TypeId}
    (hW : DataW.Whole enc P fn.params.toList s.vars false W args.toList ds gs before)
    (hres : (s.fn H (ds ++ gs)).results = [.lit (.bool true)]) (hargs : (s.fn H (ds ++ gs)).args = ds) (hvars : (s.fn H (ds ++ gs)).vars = gs)
    (hrt : fn.resultTypes = #[tb]) (htb : P.underlying tb = some .bool) (hts : ∀ t ∈ fn.params.toList, P.readableRec t = true ∧ t < P.types.size) (hvr : varsRowed P s.vars = true)
    (hb : Below W.heap.size W W') : s.post enc P fn false true false false W args (.bool true) W' := by
  have hW' := hW
  obtain ⟨p, q, hA, hV, rfl, _, _⟩ := hW
  have hlt : ∀ x ∈ p ++ q, x.block < W.heap.size := fun x hx => by simpa using hW'.lt x hx
  refine ⟨ds, gs, p ++ q, [], p, q, hW', ?_, ?_, ?_, hb.frame _, fun h => by cases h⟩
  · rw [hres, hrt]
    exact trodAll_mk1 (shut_bool htb _)
  · rw [hargs]
    exact args_keep hl hb hts (fun x hx => hlt x (List.mem_append_left _ hx)) hA
  · rw [hvars]
    exact Below.trodVars hl hb hvr hV

/-- A slice at A of n elements reads as these cells ('size' cells an element), which lie below block B. -/
def Rd (w : World) (B size : Nat) (A : Option Addr) (n : Nat) (xs : List Value) : Prop :=
  xs.length = n * size ∧ (0 < n → ∃ b o, A = some ⟨b, o, none⟩ ∧ b < B ∧ ∀ j u, xs[j]? = some u → w.cell? ⟨b, o + j, none⟩ = some u)

section
variable {w w' : World} {B B' size n : Nat} {A : Option Addr} {xs : List Value}
theorem Rd.keep (h : Rd w B size A n xs) (hk : ∀ p : Addr, p.block < B → w'.cell? p = w.cell? p) : Rd w' B size A n xs :=
  ⟨h.1, fun hn => by
    obtain ⟨b, o, e, hb, hc⟩ := h.2 hn
    exact ⟨b, o, e, hb, fun j u hu => (hk _ hb).trans (hc j u hu)⟩⟩
theorem Rd.on (h : Rd w B size A n xs) (hb : Below B w w') : Rd w' B size A n xs := h.keep fun _ hp => hb.cell hp
theorem Rd.more (h : Rd w B size A n xs) (hB : B ≤ B') : Rd w B' size A n xs :=
  ⟨h.1, fun hn => by
    obtain ⟨b, o, e, hb, hc⟩ := h.2 hn
    exact ⟨b, o, e, by omega, hc⟩⟩
theorem Rd.next (h : Rd w w.heap.size size A n xs) (hb : Below w.heap.size w w') : Rd w' w'.heap.size size A n xs := (h.on hb).more hb.size
theorem Rd.drew (h : Rd w B size A n xs) : Rd w.drew B size A n xs := h
theorem Rd.alloc (h : Rd w B size A n xs) (hB : B ≤ w.heap.size) (o : Obj) : Rd (w.alloc o) B size A n xs := h.keep fun p hp => World.cell?_alloc_lt w o p (by omega)
end

/-- Cells in a block of their own read as a slice. -/
theorem Rd.blk {w : World} {b : Nat} {t : TypeId} {l : List Value} {size m : Nat} (h : Blk w b t l.toArray) (hm : l.length = m * size) : Rd w w.heap.size size (some ⟨b, 0, none⟩) m l :=
  ⟨hm, fun _ => ⟨b, 0, rfl, h.lt, fun j u hu => by rw [h.cell, Nat.zero_add]; simpa using hu⟩⟩

theorem Rd.new (w : World) (t : TypeId) (l : List Value) {b size m : Nat} (hb : b = w.heap.size) (hm : l.length = m * size) : Rd (w.alloc (.cells l.toArray t)) (w.alloc (.cells l.toArray t)).heap.size size (some ⟨b, 0, none⟩) m l := by
  subst hb
  exact Rd.blk (Blk.new _ _ _) hm

/-- A slice's length. -/
def lenOf : Value → Nat
  | .slice _ n _ => n
  | _ => 0

section
variable {P : Program} {w : World}
end

theorem ints_one (k : IntKind) (zs : List Int) : ∀ u ∈ zs.map (Value.int k), u.oneCell' = true := ints_oneCell k zs

section
variable {H : Type} {enc : TypeId × Value → H} {P : Program} {W : World} {b0 : Nat} {r : Reach} {t e : TypeId} {v : Value} {d : DataW H} {p : List MemPlace}

end

/-- Of what was there block p alone may have turned. -/
def Only (p : Nat) (w w' : World) : Prop := w.grownBy w' (some p)
section
variable {p : Nat} {w w' w'' : World}
theorem Only.refl (p : Nat) (w : World) : Only p w w := World.grownBy.refl w _
theorem Only.trans (h : Only p w w') (k : Only p w' w'') : Only p w w'' :=
  ⟨k.os.trans h.os, k.tape.trans h.tape, k.output.trans h.output, Nat.le_trans h.size k.size, fun j hj hne => (k.block j (Nat.lt_of_lt_of_le hj h.size) hne).trans (h.block j hj hne)⟩
theorem Only.setCell (w : World) (p i : Nat) (u : Value) : Only p w (w.setCell ⟨p, i, none⟩ u) :=
  ⟨rfl, rfl, rfl, by simp [World.setCell], fun k _ hk => Below.heap_setCell _ _ _ _ (by intro e; exact hk (by rw [e]))⟩
theorem Only.below {B : Nat} {W0 : World} (h : Only p w w') (hb : Below B W0 w) (hB : B ≤ p) (hs : B ≤ w.heap.size) : Below B W0 w' :=
  hb.grown h hs fun k hk => by injection hk with hk; omega
theorem Blk.only {b : Nat} {t : TypeId} {cs : Array Value} (h : Blk w b t cs) (ho : Only p w w') (hne : b ≠ p) : Blk w' b t cs := h.grown ho (by intro e; injection e with e; exact hne e)
end
end Go.Proofs.Ytblikpbaeippaaa.Base


/- More lemmas on arguments: elements that are arrays. No condition. -/
namespace Go.Proofs.Ytblikpbaeippaaa.Base
set_option linter.unusedVariables false
set_option linter.unusedSimpArgs false
open Go.ChangeShapes Go.WideShapes Go.ChangeAt Go.RowKit Go.Deep

theorem Blk.setCells {b : Nat} {t : TypeId} (vs : List Value) : ∀ (o : Nat) {cs : List Value} {w : World}, Blk w b t cs.toArray → o + vs.length ≤ cs.length → Blk (w.setCells b o vs) b t (cs.take o ++ vs ++ cs.drop (o + vs.length)).toArray := by
  induction vs with
  | nil => intro o cs w h _; simpa [World.setCells] using h
  | cons v vs ih =>
    intro o cs w h hl
    have h1 := h.set_ o v
    rw [List.setIfInBounds_toArray] at h1
    have h2 := ih (o + 1) h1 (by simp at hl ⊢; omega)
    have e : (cs.set o v).take (o + 1) ++ vs ++ (cs.set o v).drop (o + 1 + vs.length) = cs.take o ++ (v :: vs) ++ cs.drop (o + (v :: vs).length) := by
      have ho : o < cs.length := by simp at hl; omega
      rw [List.drop_set_of_lt (by omega), List.take_add_one, List.getElem?_set_self (by omega), List.take_set_of_le (by omega)]
      simp [Nat.add_assoc, Nat.add_comm 1]
    rw [e] at h2
    exact h2
theorem Only.setCells {p : Nat} (vs : List Value) : ∀ (o : Nat) {w w' : World}, Only p w w' → Only p w (w'.setCells p o vs) := by
  induction vs with
  | nil => intro o w w' h; simpa [World.setCells] using h
  | cons v vs ih => intro o w w' h; exact ih (o + 1) (h.trans (Only.setCell w' p o v))

end Go.Proofs.Ytblikpbaeippaaa.Base

