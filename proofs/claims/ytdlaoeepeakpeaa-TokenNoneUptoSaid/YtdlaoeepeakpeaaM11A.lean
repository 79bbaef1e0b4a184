/- Parts Tk4, TxRl, Pt, Tk5, Tk6, Base, Par, Pq, Wdo, Wrm, Tkp, Base2, Tk7, joined. No condition. -/
import Derived.Test.YtdlaoeepeakpeaaM10A
import Derived.Test.YtdlaoeepeakpeaaM8A
import Derived.Test.YtdlaoeepeakpeaaM3A
import Derived.Test.YtdlaoeepeakpeaaM6A
import Derived.Test.YtdlaoeepeakpeaaM9A
import Derived.Test.YtdlaoeepeakpeaaRows
import Derived.WalkKit
import Derived.ProofKit
import Derived.OpenShut
import Derived.SizedLaws
import Derived.OpenVars
import Derived.Lib.Hide
import Derived.Deep.Fields
import Derived.Deep.Slices
import Derived.Test.YtdlaoeepeakpeaaM5A
import Derived.Deep.MidRow
import Derived.Laws.ResultCell
import Derived.Lib.Bytealg
/- Walks of token.read and token.Read. -/
namespace Go.Proofs.Ytdlaoeepeakpeaa
set_option linter.unusedVariables false
set_option linter.unusedSimpArgs false
open Go.RowKit Px Wr
def Z6 : List Value := [.string ⟨#[]⟩, .string ⟨#[]⟩, .int .i64 0, .int .i64 0, .int .i64 0, .slice none 0 0]
/-- A vector that ends in no 0 does not lie in a zero block. -/
theorem rv_put0 {w0 : World} {h : PH} {A : Option Addr} {x : List Int} {m : Int} {rb : Nat} (hr : Rv w0 h A (ints x)) (hl : Low w0 h) (hz : h.m rb = some ⟨Z6, 6⟩) (ht : trim x m = true) (k : Bk) : Rv w0 (h.new rb k) A (ints x) := by
  rcases List.eq_nil_or_concat x with rfl | ⟨y, z, hx⟩
  · exact Rv.nil _ _ _
  rw [List.concat_eq_append] at hx
  have hne : ∀ a, A = some a → ¬ a.block = rb := fun a ea e => by
    have hzn : z ≠ 0 := fun e0 => (trim_iff.1 ht).2.1 (by rw [hx, e0]; simp)
    have hg : (ints x)[y.length]? = some (.int .i64 z) := by rw [hx]; simp [ints]
    obtain ⟨b, o, hA, hc⟩ := hr _ _ hg
    rw [hA] at ea
    obtain rfl := Option.some.inj ea
    simp only at e
    subst e
    rcases hc with ⟨k', hk, hv⟩ | ⟨hlt, _⟩
    · rw [hz] at hk
      obtain rfl := Option.some.inj hk
      simp only at hv
      rcases (show o + y.length = 0 ∨ o + y.length = 1 ∨ o + y.length = 2 ∨ o + y.length = 3 ∨ o + y.length = 4 ∨ o + y.length = 5 ∨ 6 ≤ o + y.length by omega) with e | e | e | e | e | e | e
      all_goals first
        | (rw [e] at hv; simp [Z6] at hv; done)
        | (rw [e] at hv; simp [Z6] at hv; exact hzn hv.symm)
        | (rw [List.getElem?_eq_none (by simp [Z6]; omega)] at hv; cases hv)
    · rw [hl _ hlt] at hz; cases hz
  exact hr.chg (F := (· = rb)) ((Chg.refl _ _).one _) hne
theorem le_new2 {a b : PH} (l : PH.Le a b) (r : Nat) (k : Bk) : PH.Le (a.new r k) (b.new r k) := by
  refine ⟨by have := l.top; simp only [PH.new_top]; omega, fun x y e => ?_⟩
  rw [PH.new_m] at e ⊢
  by_cases hx : x = r
  · rw [if_pos hx] at e ⊢; exact e
  · rw [if_neg hx] at e ⊢; exact l.m x y e
/-- A ring's answers to Key. -/
def KEYR (al : Int → Prop) (key : Int → List UInt8) (n : Int) (h : PH) : Value → PH → Prop := fun v h' => (al n ∧ v = .tuple #[str (key n), .nilIface] ∧ h' = h) ∨ (¬ al n ∧ ∃ be, v = .tuple #[str [], errV be] ∧ PH.Le h h')
def KeyIs (w0 : World) (rv : Value) (al : Int → Prop) (key : Int → List UInt8) (h : PH) : Prop := (∀ n, (key n).length ≤ 100) ∧ ∀ n h', PH.Le h h' → PCalls Try.prog w0 25 [rv, .int .i64 n] h' (KEYR al key n h')
theorem KeyIs.more {w0 : World} {rv : Value} {al : Int → Prop} {key : Int → List UInt8} {h h' : PH} (k : KeyIs w0 rv al key h) (l : PH.Le h h') : KeyIs w0 rv al key h' := ⟨k.1, fun n h2 l2 => k.2 n h2 (l.trans l2)⟩
theorem key_ring (b : Nat) (m : List UInt8) (c : Int) (hm : right m c) (w0 : World) (h : PH) (hb : h.m b = some ⟨[str m, .int .i64 c], 2⟩) : KeyIs w0 (.pointer (some ⟨b, 0, none⟩)) (alive c) (derive m) h := by
  refine ⟨fun n => by rw [derive_len]; omega, fun n h' l => ?_⟩
  by_cases ha : alive c n
  · exact (key_alive b m c n w0 h' hm.2.1 ⟨hm.2.2.1, hm.2.2.2⟩ ha (l.m _ _ hb)).mono fun v h2 ⟨e1, e2⟩ => .inl ⟨ha, e1, e2⟩
  · exact (key_not b m c n w0 h' ⟨hm.2.2.1, hm.2.2.2⟩ ha (l.m _ _ hb)).mono fun v h2 ⟨be, e1, e2, e3⟩ => .inr ⟨ha, be, e1, by rw [e3]; exact (PH.Le.refl _).new _ _ e2⟩
theorem key_none (w0 : World) (h : PH) : KeyIs w0 (.pointer none) (fun _ => False) (derive []) h := by
  refine ⟨fun n => by rw [derive_len]; omega, fun n h' l => ?_⟩
  exact (key_nil n w0 h').mono fun v h2 ⟨be, e1, e2, e3⟩ => .inr ⟨id, be, e1, by rw [e3]; exact (PH.Le.refl _).new _ _ e2⟩
def erO : Option Nat → Value
  | none => .nilIface
  | some b => errV b
theorem dec_er (s : List UInt8) (hs : s.length ≤ 4000000) (w0 : World) (h : PH) : PCalls Try.prog w0 40 [str s] h fun v h' => ∃ (x : List UInt8) (p : Option Nat), v = .tuple #[str x, erO p] ∧ PH.Le h h' ∧ (p = none → decR s = .inl x) ∧ (p ≠ none → ∃ a, decR s = .inr a) := by
  refine (dec_any s w0 h hs).mono ?_
  intro v h' hd
  unfold DecIs at hd
  cases hr : decR s with
  | inl out =>
    rw [hr] at hd
    obtain ⟨rfl, rfl⟩ := hd
    exact ⟨out, none, rfl, PH.Le.refl _, fun _ => rfl, fun hn => absurd rfl hn⟩
  | inr a =>
    rw [hr] at hd
    obtain ⟨be, rfl, hbe, rfl⟩ := hd
    exact ⟨[], some be, rfl, (PH.Le.refl _).new _ _ hbe, (fun hn => by cases hn), fun _ => ⟨a, rfl⟩⟩
theorem both_er (p q : Option Nat) (w0 : World) (h : PH) : PCalls Try.prog w0 22 [erO p, erO q] h fun r h' => ((p = none ∧ q = none ∧ r = .nilIface) ∨ (¬ (p = none ∧ q = none) ∧ ∃ t x, r = .iface t x)) ∧ h' = h := by
  cases p with
  | none =>
    refine (both_nil (erO q) w0 h).mono ?_
    rintro v h' ⟨rfl, rfl⟩
    cases q with
    | none => exact ⟨.inl ⟨rfl, rfl, rfl⟩, rfl⟩
    | some b => exact ⟨.inr ⟨by simp, _, _, rfl⟩, rfl⟩
  | some a =>
    cases q with
    | none =>
      refine (both_one _ _ w0 h).mono ?_
      rintro v h' ⟨rfl, rfl⟩
      exact ⟨.inr ⟨by simp, _, _, rfl⟩, rfl⟩
    | some b =>
      refine (both_two _ _ _ _ w0 h).mono ?_
      rintro v h' ⟨rfl, rfl⟩
      exact ⟨.inr ⟨by simp, _, _, rfl⟩, rfl⟩
/-- What read tells. -/
def RDI (w0 : World) (h0 h' : PH) (al : Int → Prop) (key : Int → List UInt8) (s : List UInt8) (v : Value) : Prop :=
  (∃ c A cap, IsT al key s c ∧ v = .tuple #[.agg (clL c A cap).toArray, .nilIface] ∧ c.x.length ≤ cap ∧ Rv w0 h' A (ints c.x) ∧ ∀ a, A = some a → h0.top ≤ a.block) ∨ ((∀ c, ¬ IsT al key s c) ∧ ∃ t x, v = .tuple #[.agg (clL clZ none 0).toArray, .iface t x])
theorem clz_eq : clL clZ none 0 = [str [], str [], .int .i64 0, .int .i64 0, .int .i64 0, .slice none 0 0] := rfl
set_option maxRecDepth 20000 in
set_option maxHeartbeats 4000000 in
theorem tread_any (rv : Value) (al : Int → Prop) (key : Int → List UInt8) (s : List UInt8) (hs : s.length ≤ 4000000) (w0 : World) (h : PH) (hk : KeyIs w0 rv al key h) : PCalls Try.prog w0 21 [rv, str s] h fun v h' => RDI w0 h h' al key s v ∧ PH.Le h h' := by
  refine PCalls_body Try.func21 (by kernel_rfl) rfl _ Try.ntmps21 (by kernel_rfl) (by kernel_rfl) _ Try.results21 ?_
  simp -dsimp -implicitDefEqProofs (disch := first | omega | assumption | (simp only [Option.isSome_some, Qt0]; done) | (simp only [UInt64.reduceToNat, UInt32.reduceToNat, UInt8.reduceToNat, List.length_cons, List.length_nil, List.length_append, Int.toNat_natCast] <;> omega)) only [Nat.reduceLT, Nat.reduceLeDiff, Nat.reduceEqDiff, ↓reduceIte, Int.reduceLT, Int.reduceLE, Int.reduceToNat, Int.reduceEq, Int.reduceNe, Nat.reduceAdd, UInt8.reduceOfNat, UInt16.reduceOfNat, UInt32.reduceOfNat, UInt64.reduceOfNat, UInt64.reduceToNat, UInt32.reduceToNat, UInt16.reduceToNat, UInt8.reduceToNat, Int.reduceAdd, Int.reduceSub, Int.reduceMul, Nat.reduceMul, Qp0, Ql0, Qe0]
  refine fun rb hrb => ?_
  have hle := (PH.Le.refl h).new rb ⟨[.string ⟨#[]⟩, .string ⟨#[]⟩, .int .i64 0, .int .i64 0, .int .i64 0, .slice none 0 0], 6⟩ hrb
  have hm : (h.new rb ⟨[.string ⟨#[]⟩, .string ⟨#[]⟩, .int .i64 0, .int .i64 0, .int .i64 0, .slice none 0 0], 6⟩).m rb = some ⟨[.string ⟨#[]⟩, .string ⟨#[]⟩, .int .i64 0, .int .i64 0, .int .i64 0, .slice none 0 0], 6⟩ := by rw [PH.new_m, if_pos rfl]
  have hk1 := hk.more hle
  have hz := allOne_of [.string ⟨#[]⟩, .string ⟨#[]⟩, .int .i64 0, .int .i64 0, .int .i64 0, .slice none 0 0] rfl
  have hrb0 : h.top ≤ rb := hrb
  have hC := cut_dot s (by omega) w0 (h.new rb ⟨[.string ⟨#[]⟩, .string ⟨#[]⟩, .int .i64 0, .int .i64 0, .int .i64 0, .slice none 0 0], 6⟩)
  unfold cutV at hC
  simp -dsimp -implicitDefEqProofs (disch := first | omega | assumption | (simp only [Option.isSome_some, Qt0]; done) | (simp only [UInt64.reduceToNat, UInt32.reduceToNat, UInt8.reduceToNat, List.length_cons, List.length_nil, List.length_append, Int.toNat_natCast] <;> omega)) only [Nat.reduceLT, Nat.reduceLeDiff, Nat.reduceEqDiff, ↓reduceIte, Int.reduceLT, Int.reduceLE, Int.reduceToNat, Int.reduceEq, Int.reduceNe, Nat.reduceAdd, UInt8.reduceOfNat, UInt16.reduceOfNat, UInt32.reduceOfNat, UInt64.reduceOfNat, UInt64.reduceToNat, UInt32.reduceToNat, UInt16.reduceToNat, UInt8.reduceToNat, Int.reduceAdd, Int.reduceSub, Int.reduceMul, Nat.reduceMul, Qp0, Ql0, Qe0]
  generalize h.new rb ⟨[.string ⟨#[]⟩, .string ⟨#[]⟩, .int .i64 0, .int .i64 0, .int .i64 0, .slice none 0 0], 6⟩ = h1 at *
  cases hc : cut1 s with
  | none =>
    rw [hc] at hC
    have hC := Lib.hid hC
    refine hC.out.mono ?_
    rintro v hq ⟨rfl, hz⟩
    obtain rfl := hz.symm
    simp -dsimp -implicitDefEqProofs (disch := first | omega | assumption | (simp only [Option.isSome_some, Qt0]; done) | (simp only [UInt64.reduceToNat, UInt32.reduceToNat, UInt8.reduceToNat, List.length_cons, List.length_nil, List.length_append, Int.toNat_natCast] <;> omega)) only [Nat.reduceLT, Nat.reduceLeDiff, Nat.reduceEqDiff, ↓reduceIte, Int.reduceLT, Int.reduceLE, Int.reduceToNat, Int.reduceEq, Int.reduceNe, Nat.reduceAdd, UInt8.reduceOfNat, UInt16.reduceOfNat, UInt32.reduceOfNat, UInt64.reduceOfNat, UInt64.reduceToNat, UInt32.reduceToNat, UInt16.reduceToNat, UInt8.reduceToNat, Int.reduceAdd, Int.reduceSub, Int.reduceMul, Nat.reduceMul, Qp0, Ql0, Qe0, hm, List.take_zero, List.drop_succ_cons, List.drop_zero, List.drop_nil, List.nil_append, List.append_nil, rdN_new, List.take_succ_cons, ite_true]
    refine ⟨_, PH.Le.refl _, .inr ⟨fun c hcc => ?_, _, _, rfl⟩, hle.new _ _ hrb0⟩
    have := (isT_cut hcc).1
    rw [hc] at this; cases this
  | some p =>
    obtain ⟨a, b⟩ := p
    have hsab := (cut1_some hc).1
    have hal : a.length ≤ 4000000 := by rw [hsab] at hs; simp at hs; omega
    have hbl : b.length ≤ 4000000 := by rw [hsab] at hs; simp at hs; omega
    rw [hc] at hC
    have hC := Lib.hid hC
    have hD := fun s hs h => Lib.hid (dec_er s hs w0 h)
    refine hC.out.mono ?_
    rintro v hq ⟨rfl, hz⟩
    obtain rfl := hz.symm
    simp -dsimp -implicitDefEqProofs (disch := first | omega | assumption | (simp only [Option.isSome_some, Qt0]; done) | (simp only [UInt64.reduceToNat, UInt32.reduceToNat, UInt8.reduceToNat, List.length_cons, List.length_nil, List.length_append, Int.toNat_natCast] <;> omega)) only [Nat.reduceLT, Nat.reduceLeDiff, Nat.reduceEqDiff, ↓reduceIte, Int.reduceLT, Int.reduceLE, Int.reduceToNat, Int.reduceEq, Int.reduceNe, Nat.reduceAdd, UInt8.reduceOfNat, UInt16.reduceOfNat, UInt32.reduceOfNat, UInt64.reduceOfNat, UInt64.reduceToNat, UInt32.reduceToNat, UInt16.reduceToNat, UInt8.reduceToNat, Int.reduceAdd, Int.reduceSub, Int.reduceMul, Nat.reduceMul, Qp0, Ql0, Qe0]
    refine (hD a hal h1).out.mono ?_
    rintro v h2 ⟨body, p, rfl, hl2, hp1, hp2⟩
    have hm2 := hl2.m _ _ hm
    have hle2 := hle.trans hl2
    simp -dsimp -implicitDefEqProofs (disch := first | omega | assumption | (simp only [Option.isSome_some, Qt0]; done) | (simp only [UInt64.reduceToNat, UInt32.reduceToNat, UInt8.reduceToNat, List.length_cons, List.length_nil, List.length_append, Int.toNat_natCast] <;> omega)) only [Nat.reduceLT, Nat.reduceLeDiff, Nat.reduceEqDiff, ↓reduceIte, Int.reduceLT, Int.reduceLE, Int.reduceToNat, Int.reduceEq, Int.reduceNe, Nat.reduceAdd, UInt8.reduceOfNat, UInt16.reduceOfNat, UInt32.reduceOfNat, UInt64.reduceOfNat, UInt64.reduceToNat, UInt32.reduceToNat, UInt16.reduceToNat, UInt8.reduceToNat, Int.reduceAdd, Int.reduceSub, Int.reduceMul, Nat.reduceMul, Qp0, Ql0, Qe0]
    refine (hD b hbl h2).out.mono ?_
    rintro v h3 ⟨tg, q, rfl, hl3, hq1, hq2⟩
    have hm3 := hl3.m _ _ hm2
    have hle3 := hle2.trans hl3
    have hB := Lib.hid (both_er p q w0 h3)
    simp -dsimp -implicitDefEqProofs (disch := first | omega | assumption | (simp only [Option.isSome_some, Qt0]; done) | (simp only [UInt64.reduceToNat, UInt32.reduceToNat, UInt8.reduceToNat, List.length_cons, List.length_nil, List.length_append, Int.toNat_natCast] <;> omega)) only [Nat.reduceLT, Nat.reduceLeDiff, Nat.reduceEqDiff, ↓reduceIte, Int.reduceLT, Int.reduceLE, Int.reduceToNat, Int.reduceEq, Int.reduceNe, Nat.reduceAdd, UInt8.reduceOfNat, UInt16.reduceOfNat, UInt32.reduceOfNat, UInt64.reduceOfNat, UInt64.reduceToNat, UInt32.reduceToNat, UInt16.reduceToNat, UInt8.reduceToNat, Int.reduceAdd, Int.reduceSub, Int.reduceMul, Nat.reduceMul, Qp0, Ql0, Qe0]
    refine hB.out.mono ?_
    rintro v hzz ⟨hv, rfl⟩
    rcases hv with ⟨rfl, rfl, rfl⟩ | ⟨hne, t, x, rfl⟩
    rotate_left
    · simp -dsimp -implicitDefEqProofs (disch := first | omega | assumption | (simp only [Option.isSome_some, Qt0]; done) | (simp only [UInt64.reduceToNat, UInt32.reduceToNat, UInt8.reduceToNat, List.length_cons, List.length_nil, List.length_append, Int.toNat_natCast] <;> omega)) only [Nat.reduceLT, Nat.reduceLeDiff, Nat.reduceEqDiff, ↓reduceIte, Int.reduceLT, Int.reduceLE, Int.reduceToNat, Int.reduceEq, Int.reduceNe, Nat.reduceAdd, UInt8.reduceOfNat, UInt16.reduceOfNat, UInt32.reduceOfNat, UInt64.reduceOfNat, UInt64.reduceToNat, UInt32.reduceToNat, UInt16.reduceToNat, UInt8.reduceToNat, Int.reduceAdd, Int.reduceSub, Int.reduceMul, Nat.reduceMul, Qp0, Ql0, Qe0, hm3, List.take_zero, List.drop_succ_cons, List.drop_zero, List.drop_nil, List.nil_append, List.append_nil, rdN_new, List.take_succ_cons, ite_true]
      refine ⟨_, PH.Le.refl _, .inr ⟨fun c hcc => ?_, _, _, rfl⟩, hle3.new _ _ hrb0⟩
      obtain ⟨i1, i2, i3, _, _⟩ := isT_cut hcc
      rw [hc] at i1
      injection i1 with i1
      injection i1 with i1 i1'
      subst i1; subst i1'
      refine hne ⟨?_, ?_⟩
      · cases p with
        | none => rfl
        | some _ =>
          obtain ⟨_, e⟩ := hp2 (by simp)
          rw [i2] at e; cases e
      · cases q with
        | none => rfl
        | some _ =>
          obtain ⟨_, e⟩ := hq2 (by simp)
          rw [i3] at e; cases e
    have hd1 := hp1 rfl
    have hd2 := hq1 rfl
    have hbo : body.length ≤ a.length := by have := Tx.decN_len _ _ (decR_in hd1).2; simp [Tx.nums] at this; omega
    have hto : tg.length ≤ b.length := by have := Tx.decN_len _ _ (decR_in hd2).2; simp [Tx.nums] at this; omega
    clear hp1 hp2 hq1 hq2 hB hC hD
    have hW := Lib.hid (decCF_any body (by omega) w0 hzz)
    simp -dsimp -implicitDefEqProofs (disch := first | omega | assumption | (simp only [Option.isSome_some, Qt0]; done) | (simp only [UInt64.reduceToNat, UInt32.reduceToNat, UInt8.reduceToNat, List.length_cons, List.length_nil, List.length_append, Int.toNat_natCast] <;> omega)) only [Nat.reduceLT, Nat.reduceLeDiff, Nat.reduceEqDiff, ↓reduceIte, Int.reduceLT, Int.reduceLE, Int.reduceToNat, Int.reduceEq, Int.reduceNe, Nat.reduceAdd, UInt8.reduceOfNat, UInt16.reduceOfNat, UInt32.reduceOfNat, UInt64.reduceOfNat, UInt64.reduceToNat, UInt32.reduceToNat, UInt16.reduceToNat, UInt8.reduceToNat, Int.reduceAdd, Int.reduceSub, Int.reduceMul, Nat.reduceMul, Qp0, Ql0, Qe0]
    refine hW.out.mono ?_
    rintro v h4 ⟨hd, hl4⟩
    have hm4 := hl4.m _ _ hm3
    have hle4 := hle3.trans hl4
    have hk4 := hk1.more ((hl2.trans hl3).trans hl4)
    rcases hd with ⟨c, A, cap, hic, rfl, hcap, hrv, hfr⟩ | ⟨hno, ev, e, rfl, hev, _⟩
    rotate_left
    · obtain ⟨t, x, rfl⟩ := hev.held
      rw [clz_eq]
      simp -dsimp -implicitDefEqProofs (disch := first | omega | assumption | (simp only [Option.isSome_some, Qt0]; done) | (simp only [UInt64.reduceToNat, UInt32.reduceToNat, UInt8.reduceToNat, List.length_cons, List.length_nil, List.length_append, Int.toNat_natCast] <;> omega)) only [Nat.reduceLT, Nat.reduceLeDiff, Nat.reduceEqDiff, ↓reduceIte, Int.reduceLT, Int.reduceLE, Int.reduceToNat, Int.reduceEq, Int.reduceNe, Nat.reduceAdd, UInt8.reduceOfNat, UInt16.reduceOfNat, UInt32.reduceOfNat, UInt64.reduceOfNat, UInt64.reduceToNat, UInt32.reduceToNat, UInt16.reduceToNat, UInt8.reduceToNat, Int.reduceAdd, Int.reduceSub, Int.reduceMul, Nat.reduceMul, Qp0, Ql0, Qe0]
      refine fun cb hcb => ?_
      have hz2 := allOne_of [str [], str [], .int .i64 0, .int .i64 0, .int .i64 0, .slice none 0 0] rfl
      have hrc : (rb = cb) = False := eq_false (by have := h4.lt _ _ hm4; omega)
      have hle5 := fun k => hle4.new cb k (Nat.le_trans hle4.top hcb)
      simp -dsimp -implicitDefEqProofs (disch := first | omega | assumption | (simp only [Option.isSome_some, Qt0]; done) | (simp only [UInt64.reduceToNat, UInt32.reduceToNat, UInt8.reduceToNat, List.length_cons, List.length_nil, List.length_append, Int.toNat_natCast] <;> omega)) only [Nat.reduceLT, Nat.reduceLeDiff, Nat.reduceEqDiff, ↓reduceIte, Int.reduceLT, Int.reduceLE, Int.reduceToNat, Int.reduceEq, Int.reduceNe, Nat.reduceAdd, UInt8.reduceOfNat, UInt16.reduceOfNat, UInt32.reduceOfNat, UInt64.reduceOfNat, UInt64.reduceToNat, UInt32.reduceToNat, UInt16.reduceToNat, UInt8.reduceToNat, Int.reduceAdd, Int.reduceSub, Int.reduceMul, Nat.reduceMul, Qp0, Ql0, Qe0, hz2, hz, hrc, hm4, PH.new_new, List.take_zero, List.drop_succ_cons, List.drop_zero, List.drop_nil, List.nil_append, List.append_nil, rdN_new, List.take_succ_cons, ite_true]
      refine ⟨_, PH.Le.refl _, .inr ⟨fun c hcc => ?_, t, x, rfl⟩, (hle4.new cb _ (Nat.le_trans hle4.top hcb)).new rb _ hrb0⟩
      obtain ⟨i1, i2, _, i4, _⟩ := isT_cut hcc
      rw [hc] at i1
      injection i1 with i1
      injection i1 with i1 _
      rw [← i1, hd1] at i2
      injection i2 with i2
      rw [← i2] at i4
      exact hno c i4
    unfold clL
    simp -dsimp -implicitDefEqProofs (disch := first | omega | assumption | (simp only [Option.isSome_some, Qt0]; done) | (simp only [UInt64.reduceToNat, UInt32.reduceToNat, UInt8.reduceToNat, List.length_cons, List.length_nil, List.length_append, Int.toNat_natCast] <;> omega)) only [Nat.reduceLT, Nat.reduceLeDiff, Nat.reduceEqDiff, ↓reduceIte, Int.reduceLT, Int.reduceLE, Int.reduceToNat, Int.reduceEq, Int.reduceNe, Nat.reduceAdd, UInt8.reduceOfNat, UInt16.reduceOfNat, UInt32.reduceOfNat, UInt64.reduceOfNat, UInt64.reduceToNat, UInt32.reduceToNat, UInt16.reduceToNat, UInt8.reduceToNat, Int.reduceAdd, Int.reduceSub, Int.reduceMul, Nat.reduceMul, Qp0, Ql0, Qe0]
    refine fun cb hcb => ?_
    have hz2 := allOne_of [str c.s, str c.u, .int .i64 c.e, .int .i64 c.i, .int .i64 c.k, .slice A c.x.length cap] rfl
    have hlc := (PH.Le.refl h4).new cb ⟨[str c.s, str c.u, .int .i64 c.e, .int .i64 c.i, .int .i64 c.k, .slice A c.x.length cap], 6⟩ hcb
    have hmc : (h4.new cb ⟨[str c.s, str c.u, .int .i64 c.e, .int .i64 c.i, .int .i64 c.k, .slice A c.x.length cap], 6⟩).m cb = some ⟨[str c.s, str c.u, .int .i64 c.e, .int .i64 c.i, .int .i64 c.k, .slice A c.x.length cap], 6⟩ := by rw [PH.new_m, if_pos rfl]
    simp -dsimp -implicitDefEqProofs (disch := first | omega | assumption | (simp only [Option.isSome_some, Qt0]; done) | (simp only [UInt64.reduceToNat, UInt32.reduceToNat, UInt8.reduceToNat, List.length_cons, List.length_nil, List.length_append, Int.toNat_natCast] <;> omega)) only [Nat.reduceLT, Nat.reduceLeDiff, Nat.reduceEqDiff, ↓reduceIte, Int.reduceLT, Int.reduceLE, Int.reduceToNat, Int.reduceEq, Int.reduceNe, Nat.reduceAdd, UInt8.reduceOfNat, UInt16.reduceOfNat, UInt32.reduceOfNat, UInt64.reduceOfNat, UInt64.reduceToNat, UInt32.reduceToNat, UInt16.reduceToNat, UInt8.reduceToNat, Int.reduceAdd, Int.reduceSub, Int.reduceMul, Nat.reduceMul, Qp0, Ql0, Qe0, hz2, PH.new_new, List.take_zero, List.drop_succ_cons, List.drop_zero, List.drop_nil, List.nil_append, List.append_nil, rdN_new, List.take_succ_cons, ite_true]
    generalize h4.new cb ⟨[str c.s, str c.u, .int .i64 c.e, .int .i64 c.i, .int .i64 c.k, .slice A c.x.length cap], 6⟩ = h5 at *
    have hm5 := hlc.m _ _ hm4
    have hle5 := hle4.trans hlc
    have hrv5 := hrv.more hlc
    have hK := Lib.hid ((hk4.more hlc).2 c.k h5 (PH.Le.refl _))
    have hkl := hk4.1 c.k
    simp -dsimp -implicitDefEqProofs (disch := first | omega | assumption | (simp only [Option.isSome_some, Qt0]; done) | (simp only [UInt64.reduceToNat, UInt32.reduceToNat, UInt8.reduceToNat, List.length_cons, List.length_nil, List.length_append, Int.toNat_natCast] <;> omega)) only [Nat.reduceLT, Nat.reduceLeDiff, Nat.reduceEqDiff, ↓reduceIte, Int.reduceLT, Int.reduceLE, Int.reduceToNat, Int.reduceEq, Int.reduceNe, Nat.reduceAdd, UInt8.reduceOfNat, UInt16.reduceOfNat, UInt32.reduceOfNat, UInt64.reduceOfNat, UInt64.reduceToNat, UInt32.reduceToNat, UInt16.reduceToNat, UInt8.reduceToNat, Int.reduceAdd, Int.reduceSub, Int.reduceMul, Nat.reduceMul, Qp0, Ql0, Qe0, rd_M, rdM_some, hmc]
    refine hK.out.mono ?_
    rintro v h6 (⟨hal', rfl, rfl⟩ | ⟨hna, be, rfl, hl6⟩)
    rotate_left
    · have hm6 := hl6.m _ _ hm5
      unfold errV
      simp -dsimp -implicitDefEqProofs (disch := first | omega | assumption | (simp only [Option.isSome_some, Qt0]; done) | (simp only [UInt64.reduceToNat, UInt32.reduceToNat, UInt8.reduceToNat, List.length_cons, List.length_nil, List.length_append, Int.toNat_natCast] <;> omega)) only [Nat.reduceLT, Nat.reduceLeDiff, Nat.reduceEqDiff, ↓reduceIte, Int.reduceLT, Int.reduceLE, Int.reduceToNat, Int.reduceEq, Int.reduceNe, Nat.reduceAdd, UInt8.reduceOfNat, UInt16.reduceOfNat, UInt32.reduceOfNat, UInt64.reduceOfNat, UInt64.reduceToNat, UInt32.reduceToNat, UInt16.reduceToNat, UInt8.reduceToNat, Int.reduceAdd, Int.reduceSub, Int.reduceMul, Nat.reduceMul, Qp0, Ql0, Qe0, hm6, hz, List.take_zero, List.drop_succ_cons, List.drop_zero, List.drop_nil, List.nil_append, List.append_nil, rdN_new, List.take_succ_cons, ite_true]
      refine ⟨_, PH.Le.refl _, .inr ⟨fun d hdd => ?_, _, _, rfl⟩, (hle5.trans hl6).new rb _ hrb0⟩
      obtain ⟨i1, i2, _, i4, i5⟩ := isT_cut hdd
      rw [hc] at i1
      injection i1 with i1
      injection i1 with i1 _
      rw [← i1, hd1] at i2
      injection i2 with i2
      rw [← i2] at i4
      rw [IsC_one' i4 hic] at i5
      exact hna i5
    have hTg := Lib.hid (tag_any (key c.k) body (by omega) (by have := bytesC_le hic.1; rw [← hic.2] at this; omega) w0 h6)
    have hEq := equal_any tg (tag (key c.k) body) (by omega) w0 h6
    obtain ⟨G, hG⟩ : ∃ G, tag (key c.k) body = G := ⟨_, rfl⟩
    rw [hG] at hTg hEq
    have hEq := Lib.hid hEq.lowR
    simp -dsimp -implicitDefEqProofs (disch := first | omega | assumption | (simp only [Option.isSome_some, Qt0]; done) | (simp only [UInt64.reduceToNat, UInt32.reduceToNat, UInt8.reduceToNat, List.length_cons, List.length_nil, List.length_append, Int.toNat_natCast] <;> omega)) only [Nat.reduceLT, Nat.reduceLeDiff, Nat.reduceEqDiff, ↓reduceIte, Int.reduceLT, Int.reduceLE, Int.reduceToNat, Int.reduceEq, Int.reduceNe, Nat.reduceAdd, UInt8.reduceOfNat, UInt16.reduceOfNat, UInt32.reduceOfNat, UInt64.reduceOfNat, UInt64.reduceToNat, UInt32.reduceToNat, UInt16.reduceToNat, UInt8.reduceToNat, Int.reduceAdd, Int.reduceSub, Int.reduceMul, Nat.reduceMul, Qp0, Ql0, Qe0]
    refine hTg.out.mono ?_
    rintro v hq ⟨rfl, hz⟩
    obtain rfl := hz.symm
    simp -dsimp -implicitDefEqProofs (disch := first | omega | assumption | (simp only [Option.isSome_some, Qt0]; done) | (simp only [UInt64.reduceToNat, UInt32.reduceToNat, UInt8.reduceToNat, List.length_cons, List.length_nil, List.length_append, Int.toNat_natCast] <;> omega)) only [Nat.reduceLT, Nat.reduceLeDiff, Nat.reduceEqDiff, ↓reduceIte, Int.reduceLT, Int.reduceLE, Int.reduceToNat, Int.reduceEq, Int.reduceNe, Nat.reduceAdd, UInt8.reduceOfNat, UInt16.reduceOfNat, UInt32.reduceOfNat, UInt64.reduceOfNat, UInt64.reduceToNat, UInt32.reduceToNat, UInt16.reduceToNat, UInt8.reduceToNat, Int.reduceAdd, Int.reduceSub, Int.reduceMul, Nat.reduceMul, Qp0, Ql0, Qe0]
    refine hEq.out.mono ?_
    rintro v hzz ⟨⟨rfl, hzq⟩, hlow⟩
    obtain rfl := hzq.symm
    cases he : decide (tg = G) with
    | false =>
      simp -dsimp -implicitDefEqProofs (disch := first | omega | assumption | (simp only [Option.isSome_some, Qt0]; done) | (simp only [UInt64.reduceToNat, UInt32.reduceToNat, UInt8.reduceToNat, List.length_cons, List.length_nil, List.length_append, Int.toNat_natCast] <;> omega)) only [Nat.reduceLT, Nat.reduceLeDiff, Nat.reduceEqDiff, ↓reduceIte, Int.reduceLT, Int.reduceLE, Int.reduceToNat, Int.reduceEq, Int.reduceNe, Nat.reduceAdd, UInt8.reduceOfNat, UInt16.reduceOfNat, UInt32.reduceOfNat, UInt64.reduceOfNat, UInt64.reduceToNat, UInt32.reduceToNat, UInt16.reduceToNat, UInt8.reduceToNat, Int.reduceAdd, Int.reduceSub, Int.reduceMul, Nat.reduceMul, Qp0, Ql0, Qe0, he, hm5, hz, List.take_zero, List.drop_succ_cons, List.drop_zero, List.drop_nil, List.nil_append, List.append_nil, rdN_new, List.take_succ_cons, ite_true]
      refine ⟨_, PH.Le.refl _, .inr ⟨fun d hdd => ?_, _, _, rfl⟩, hle5.new rb _ hrb0⟩
      obtain ⟨i1, i2, i3, i4, i5⟩ := isT_cut hdd
      rw [hc] at i1
      injection i1 with i1
      injection i1 with i1 i1'
      rw [← i1, hd1] at i2
      injection i2 with i2
      rw [← i1', hd2] at i3
      injection i3 with i3
      rw [← i2] at i4 i3
      rw [IsC_one' i4 hic, hG] at i3
      exact of_decide_eq_false he i3
    | true =>
      have hC0 : rdN w0 h6 ⟨cb, 0, none⟩ 6 = some [str c.s, str c.u, .int .i64 c.e, .int .i64 c.i, .int .i64 c.k, .slice A c.x.length cap] := by unfold rdN; simp only [hmc]; rfl
      simp -dsimp -implicitDefEqProofs (disch := first | omega | assumption | (simp only [Option.isSome_some, Qt0]; done) | (simp only [UInt64.reduceToNat, UInt32.reduceToNat, UInt8.reduceToNat, List.length_cons, List.length_nil, List.length_append, Int.toNat_natCast] <;> omega)) only [Nat.reduceLT, Nat.reduceLeDiff, Nat.reduceEqDiff, ↓reduceIte, Int.reduceLT, Int.reduceLE, Int.reduceToNat, Int.reduceEq, Int.reduceNe, Nat.reduceAdd, UInt8.reduceOfNat, UInt16.reduceOfNat, UInt32.reduceOfNat, UInt64.reduceOfNat, UInt64.reduceToNat, UInt32.reduceToNat, UInt16.reduceToNat, UInt8.reduceToNat, Int.reduceAdd, Int.reduceSub, Int.reduceMul, Nat.reduceMul, Qp0, Ql0, Qe0, he, hm5, hC0, hz2, List.take_zero, List.drop_succ_cons, List.drop_zero, List.drop_nil, List.nil_append, List.append_nil, rdN_new, List.take_succ_cons, ite_true]
      refine ⟨_, PH.Le.refl _, .inl ⟨c, A, cap, isT_of hc hd1 hd2 hic hal' (by rw [of_decide_eq_true he, hG]), rfl, hcap, rv_put0 hrv5 hlow hm5 (rightC_iff.1 hic.1).2.2.2.2.2.2.2 _, fun a ea => Nat.le_trans hle3.top (hfr a ea)⟩, hle5.new rb _ hrb0⟩
end Go.Proofs.Ytdlaoeepeakpeaa


/- Walks of the document's letter, and what its Enc and Dec share. -/
namespace Go.Proofs.Ytdlaoeepeakpeaa
set_option linter.unusedVariables false
set_option linter.unusedSimpArgs false
open Go.RowKit Px Tx
def is (l : List Int) : List Value := l.map fun n => .int .i64 n
end Go.Proofs.Ytdlaoeepeakpeaa


/- A drawn region by a tree of plans: two operations that make memory may be ready at once. No condition. -/
namespace Go.Proofs.Ytdlaoeepeakpeaa.Px
set_option linter.unusedVariables false
set_option linter.unusedSimpArgs false
open Go.RowKit
/-- A plan: take one operation; or two that are ready at once, each with what comes behind it. -/
inductive Pl where
  | done
  | take (i : Nat) (p : Pl)
  | both (i : Nat) (p : Pl) (j : Nat) (q : Pl)
section
variable {P : Program} {w0 : World} {h : PH} {N : Nat} {K : Fr → PH → Prop}
def Pl.len : Pl → Nat
  | .done => 0
  | .take _ p => p.len + 1
  | .both _ p _ q => max p.len q.len + 1
end
end Go.Proofs.Ytdlaoeepeakpeaa.Px


/- Walks of token.Read and of the document's Token. -/
namespace Go.Proofs.Ytdlaoeepeakpeaa
set_option linter.unusedVariables false
set_option linter.unusedSimpArgs false
open Go.RowKit Px Wr
/-- What Read tells. -/
def RDO (w0 : World) (h0 h' : PH) (al : Int → Prop) (key : Int → List UInt8) (s : List UInt8) (v : Value) : Prop :=
  (∃ c A cap, IsT al key s c ∧ v = .tuple #[.agg (clL c A cap).toArray, .nilIface] ∧ c.x.length ≤ cap ∧ Rv w0 h' A (ints c.x) ∧ ∀ a, A = some a → h0.top ≤ a.block) ∨ ((∀ c, ¬ IsT al key s c) ∧ ∃ be t x, v = .tuple #[.agg (clL clZ none 0).toArray, errV be] ∧ h'.m be = some ⟨[str tokenT, .int .i64 s.length, bothV (codeV 9) (.iface t x)], 3⟩)
set_option maxRecDepth 20000 in
set_option maxHeartbeats 4000000 in
theorem tRead_any (rv : Value) (al : Int → Prop) (key : Int → List UInt8) (s : List UInt8) (hs : s.length ≤ 4000000) (w0 : World) (h : PH) (hk : KeyIs w0 rv al key h) : PCalls Try.prog w0 11 [rv, str s] h fun v h' => RDO w0 h h' al key s v ∧ PH.Le h h' := by
  refine PCalls_body Try.func11 (by kernel_rfl) rfl _ Try.ntmps11 (by kernel_rfl) (by kernel_rfl) _ Try.results11 ?_
  simp -dsimp -implicitDefEqProofs (disch := first | omega | assumption | (simp only [Option.isSome_some, Qt0]; done) | (simp only [UInt64.reduceToNat, UInt32.reduceToNat, UInt8.reduceToNat, List.length_cons, List.length_nil, List.length_append, Int.toNat_natCast] <;> omega)) only [Nat.reduceLT, Nat.reduceLeDiff, Nat.reduceEqDiff, ↓reduceIte, Int.reduceLT, Int.reduceLE, Int.reduceToNat, Int.reduceEq, Int.reduceNe, Nat.reduceAdd, UInt8.reduceOfNat, UInt16.reduceOfNat, UInt32.reduceOfNat, UInt64.reduceOfNat, UInt64.reduceToNat, UInt32.reduceToNat, UInt16.reduceToNat, UInt8.reduceToNat, Int.reduceAdd, Int.reduceSub, Int.reduceMul, Nat.reduceMul, Qp0, Ql0, Qe0]
  refine fun rb hrb => ?_
  have hle := (PH.Le.refl h).new rb ⟨[.string ⟨#[]⟩, .string ⟨#[]⟩, .int .i64 0, .int .i64 0, .int .i64 0, .slice none 0 0], 6⟩ hrb
  have hm : (h.new rb ⟨[.string ⟨#[]⟩, .string ⟨#[]⟩, .int .i64 0, .int .i64 0, .int .i64 0, .slice none 0 0], 6⟩).m rb = some ⟨[.string ⟨#[]⟩, .string ⟨#[]⟩, .int .i64 0, .int .i64 0, .int .i64 0, .slice none 0 0], 6⟩ := by rw [PH.new_m, if_pos rfl]
  have hk1 := hk.more hle
  have hz := allOne_of [.string ⟨#[]⟩, .string ⟨#[]⟩, .int .i64 0, .int .i64 0, .int .i64 0, .slice none 0 0] rfl
  have hrb0 : h.top ≤ rb := hrb
  have hR := Lib.hid (tread_any rv al key s hs w0 (h.new rb ⟨[.string ⟨#[]⟩, .string ⟨#[]⟩, .int .i64 0, .int .i64 0, .int .i64 0, .slice none 0 0], 6⟩) hk1).lowR
  simp -dsimp -implicitDefEqProofs (disch := first | omega | assumption | (simp only [Option.isSome_some, Qt0]; done) | (simp only [UInt64.reduceToNat, UInt32.reduceToNat, UInt8.reduceToNat, List.length_cons, List.length_nil, List.length_append, Int.toNat_natCast] <;> omega)) only [Nat.reduceLT, Nat.reduceLeDiff, Nat.reduceEqDiff, ↓reduceIte, Int.reduceLT, Int.reduceLE, Int.reduceToNat, Int.reduceEq, Int.reduceNe, Nat.reduceAdd, UInt8.reduceOfNat, UInt16.reduceOfNat, UInt32.reduceOfNat, UInt64.reduceOfNat, UInt64.reduceToNat, UInt32.reduceToNat, UInt16.reduceToNat, UInt8.reduceToNat, Int.reduceAdd, Int.reduceSub, Int.reduceMul, Nat.reduceMul, Qp0, Ql0, Qe0]
  generalize h.new rb ⟨[.string ⟨#[]⟩, .string ⟨#[]⟩, .int .i64 0, .int .i64 0, .int .i64 0, .slice none 0 0], 6⟩ = h1 at *
  refine hR.out.mono ?_
  rintro v h2 ⟨⟨hr, hl2⟩, hlow⟩
  have hm2 := hl2.m _ _ hm
  have hle2 := hle.trans hl2
  rcases hr with ⟨c, A, cap, hic, rfl, hcap, hrv, hfr⟩ | ⟨hno, t, x, rfl⟩
  · unfold clL
    simp -dsimp -implicitDefEqProofs (disch := first | omega | assumption | (simp only [Option.isSome_some, Qt0]; done) | (simp only [UInt64.reduceToNat, UInt32.reduceToNat, UInt8.reduceToNat, List.length_cons, List.length_nil, List.length_append, Int.toNat_natCast] <;> omega)) only [Nat.reduceLT, Nat.reduceLeDiff, Nat.reduceEqDiff, ↓reduceIte, Int.reduceLT, Int.reduceLE, Int.reduceToNat, Int.reduceEq, Int.reduceNe, Nat.reduceAdd, UInt8.reduceOfNat, UInt16.reduceOfNat, UInt32.reduceOfNat, UInt64.reduceOfNat, UInt64.reduceToNat, UInt32.reduceToNat, UInt16.reduceToNat, UInt8.reduceToNat, Int.reduceAdd, Int.reduceSub, Int.reduceMul, Nat.reduceMul, Qp0, Ql0, Qe0]
    refine fun cb hcb => ?_
    have hz2 := allOne_of [str c.s, str c.u, .int .i64 c.e, .int .i64 c.i, .int .i64 c.k, .slice A c.x.length cap] rfl
    have hrv2 := rv_put0 hrv hlow hm2 (rightC_iff.1 hic.1).2.2.2.2.2.2.2 ⟨[str c.s, str c.u, .int .i64 c.e, .int .i64 c.i, .int .i64 c.k, .slice A c.x.length cap], 6⟩
    have hrv3 := hrv2.more (le_new2 ((PH.Le.refl h2).new cb ⟨[str c.s, str c.u, .int .i64 c.e, .int .i64 c.i, .int .i64 c.k, .slice A c.x.length cap], 6⟩ hcb) rb ⟨[str c.s, str c.u, .int .i64 c.e, .int .i64 c.i, .int .i64 c.k, .slice A c.x.length cap], 6⟩)
    have hrc : (rb = cb) = False := eq_false (by have := h2.lt _ _ hm2; omega)
    simp -dsimp -implicitDefEqProofs (disch := first | omega | assumption | (simp only [Option.isSome_some, Qt0]; done) | (simp only [UInt64.reduceToNat, UInt32.reduceToNat, UInt8.reduceToNat, List.length_cons, List.length_nil, List.length_append, Int.toNat_natCast] <;> omega)) only [Nat.reduceLT, Nat.reduceLeDiff, Nat.reduceEqDiff, ↓reduceIte, Int.reduceLT, Int.reduceLE, Int.reduceToNat, Int.reduceEq, Int.reduceNe, Nat.reduceAdd, UInt8.reduceOfNat, UInt16.reduceOfNat, UInt32.reduceOfNat, UInt64.reduceOfNat, UInt64.reduceToNat, UInt32.reduceToNat, UInt16.reduceToNat, UInt8.reduceToNat, Int.reduceAdd, Int.reduceSub, Int.reduceMul, Nat.reduceMul, Qp0, Ql0, Qe0, hz2, hrc, hm2, PH.new_new, List.take_zero, List.drop_succ_cons, List.drop_zero, List.drop_nil, List.nil_append, List.append_nil, rdN_new, List.take_succ_cons, ite_true]
    exact ⟨_, PH.Le.refl _, .inl ⟨c, A, cap, hic, rfl, hcap, hrv3, fun a ea => Nat.le_trans hle.top (hfr a ea)⟩, (hle2.new cb _ (Nat.le_trans hle2.top hcb)).new rb _ hrb0⟩
  · rw [clz_eq]
    simp -dsimp -implicitDefEqProofs (disch := first | omega | assumption | (simp only [Option.isSome_some, Qt0]; done) | (simp only [UInt64.reduceToNat, UInt32.reduceToNat, UInt8.reduceToNat, List.length_cons, List.length_nil, List.length_append, Int.toNat_natCast] <;> omega)) only [Nat.reduceLT, Nat.reduceLeDiff, Nat.reduceEqDiff, ↓reduceIte, Int.reduceLT, Int.reduceLE, Int.reduceToNat, Int.reduceEq, Int.reduceNe, Nat.reduceAdd, UInt8.reduceOfNat, UInt16.reduceOfNat, UInt32.reduceOfNat, UInt64.reduceOfNat, UInt64.reduceToNat, UInt32.reduceToNat, UInt16.reduceToNat, UInt8.reduceToNat, Int.reduceAdd, Int.reduceSub, Int.reduceMul, Nat.reduceMul, Qp0, Ql0, Qe0]
    refine fun cb hcb => ?_
    have hz2 := allOne_of [str [], str [], .int .i64 0, .int .i64 0, .int .i64 0, .slice none 0 0] rfl
    have hlc := (PH.Le.refl h2).new cb ⟨[str [], str [], .int .i64 0, .int .i64 0, .int .i64 0, .slice none 0 0], 6⟩ hcb
    simp -dsimp -implicitDefEqProofs (disch := first | omega | assumption | (simp only [Option.isSome_some, Qt0]; done) | (simp only [UInt64.reduceToNat, UInt32.reduceToNat, UInt8.reduceToNat, List.length_cons, List.length_nil, List.length_append, Int.toNat_natCast] <;> omega)) only [Nat.reduceLT, Nat.reduceLeDiff, Nat.reduceEqDiff, ↓reduceIte, Int.reduceLT, Int.reduceLE, Int.reduceToNat, Int.reduceEq, Int.reduceNe, Nat.reduceAdd, UInt8.reduceOfNat, UInt16.reduceOfNat, UInt32.reduceOfNat, UInt64.reduceOfNat, UInt64.reduceToNat, UInt32.reduceToNat, UInt16.reduceToNat, UInt8.reduceToNat, Int.reduceAdd, Int.reduceSub, Int.reduceMul, Nat.reduceMul, Qp0, Ql0, Qe0, hz2, PH.new_new, List.take_zero, List.drop_succ_cons, List.drop_zero, List.drop_nil, List.nil_append, List.append_nil, rdN_new, List.take_succ_cons, ite_true]
    generalize h2.new cb ⟨[str [], str [], .int .i64 0, .int .i64 0, .int .i64 0, .slice none 0 0], 6⟩ = h3 at *
    have hm3 := hlc.m _ _ hm2
    have hle3 := hle2.trans hlc
    have hB := Lib.hid (both_two 43 t (.int .i64 9) x w0 h3)
    have hA := Lib.hid (at_any tokenT (s.length : Int) 79 (.agg #[codeV 9, .iface t x]) w0 h3)
    unfold bothV codeV at *
    refine hB.out.mono ?_
    rintro v hq ⟨rfl, hz⟩
    obtain rfl := hz.symm
    simp -dsimp -implicitDefEqProofs (disch := first | omega | assumption | (simp only [Option.isSome_some, Qt0]; done) | (simp only [UInt64.reduceToNat, UInt32.reduceToNat, UInt8.reduceToNat, List.length_cons, List.length_nil, List.length_append, Int.toNat_natCast] <;> omega)) only [Nat.reduceLT, Nat.reduceLeDiff, Nat.reduceEqDiff, ↓reduceIte, Int.reduceLT, Int.reduceLE, Int.reduceToNat, Int.reduceEq, Int.reduceNe, Nat.reduceAdd, UInt8.reduceOfNat, UInt16.reduceOfNat, UInt32.reduceOfNat, UInt64.reduceOfNat, UInt64.reduceToNat, UInt32.reduceToNat, UInt16.reduceToNat, UInt8.reduceToNat, Int.reduceAdd, Int.reduceSub, Int.reduceMul, Nat.reduceMul, Qp0, Ql0, Qe0]
    refine hA.out.mono ?_
    rintro v h4 ⟨be, rfl, hbe, rfl⟩
    have hl4 := (PH.Le.refl h3).new be ⟨[str tokenT, .int .i64 (s.length : Int), .iface 79 (.agg #[.iface 43 (.int .i64 9), .iface t x])], 3⟩ hbe
    have hmb : (h3.new be ⟨[str tokenT, .int .i64 (s.length : Int), .iface 79 (.agg #[.iface 43 (.int .i64 9), .iface t x])], 3⟩).m be = some ⟨[str tokenT, .int .i64 (s.length : Int), .iface 79 (.agg #[.iface 43 (.int .i64 9), .iface t x])], 3⟩ := by rw [PH.new_m, if_pos rfl]
    generalize h3.new be ⟨[str tokenT, .int .i64 (s.length : Int), .iface 79 (.agg #[.iface 43 (.int .i64 9), .iface t x])], 3⟩ = h4 at *
    have hm4 := hl4.m _ _ hm3
    have hnb : be ≠ rb := by have := h3.lt _ _ hm3; omega
    unfold errV
    simp -dsimp -implicitDefEqProofs (disch := first | omega | assumption | (simp only [Option.isSome_some, Qt0]; done) | (simp only [UInt64.reduceToNat, UInt32.reduceToNat, UInt8.reduceToNat, List.length_cons, List.length_nil, List.length_append, Int.toNat_natCast] <;> omega)) only [Nat.reduceLT, Nat.reduceLeDiff, Nat.reduceEqDiff, ↓reduceIte, Int.reduceLT, Int.reduceLE, Int.reduceToNat, Int.reduceEq, Int.reduceNe, Nat.reduceAdd, UInt8.reduceOfNat, UInt16.reduceOfNat, UInt32.reduceOfNat, UInt64.reduceOfNat, UInt64.reduceToNat, UInt32.reduceToNat, UInt16.reduceToNat, UInt8.reduceToNat, Int.reduceAdd, Int.reduceSub, Int.reduceMul, Nat.reduceMul, Qp0, Ql0, Qe0, hm4, hz, List.take_zero, List.drop_succ_cons, List.drop_zero, List.drop_nil, List.nil_append, List.append_nil, rdN_new, List.take_succ_cons, ite_true]
    exact ⟨_, PH.Le.refl _, .inr ⟨hno, be, t, x, rfl, by rw [PH.new_m, if_neg hnb]; exact hmb⟩, (hle3.trans hl4).new rb _ hrb0⟩
end Go.Proofs.Ytdlaoeepeakpeaa


/- Walks of the law's basis, great and awake. -/
namespace Go.Proofs.Ytdlaoeepeakpeaa
set_option linter.unusedVariables false
set_option linter.unusedSimpArgs false
open Go.RowKit Px Wr
theorem tenc_length (l : List UInt8) : (Tx.enc l).length = (4 * l.length + 2) / 3 := by
  fun_induction Tx.enc l with
  | case1 => rfl
  | case2 a => rw [Tx.lets_length]; simp
  | case3 a b => rw [Tx.lets_length]; simp
  | case4 a b c t ih => rw [List.length_append, Tx.lets_length, ih]; simp; omega
theorem tok_length (key : Int → List UInt8) (c : Cl) : (tok key c).length = (4 * (bytesC c).length + 2) / 3 + 44 := by
  unfold tok
  rw [List.length_append, List.length_cons, tenc_length, tenc_length, tag_length]
def basC : Cl := ⟨[49, 45, 49], [97, 110, 110], 0, 0, 0, [2]⟩
def greatC (c : Cl) : Bool := decide (1000 < (c.s.length : Int)) || decide (1000 < (c.u.length : Int)) || decide (100 < (c.x.length : Int))
theorem info_intk : (Try.prog.info? 3).map (fun i => (i.zero, i.size, i.bytes)) = some (some (.int .i64 0), 1, 8) := by kernel_rfl
theorem el_intk : El Try.prog 29 3 (.int .i64 0) 1 8 := ⟨Try.underlying29, info_parts info_intk, rfl, by decide⟩
set_option maxRecDepth 20000 in
theorem basis_any (w0 : World) (h : PH) : PCalls Try.prog w0 18 [] h fun v h' => ∃ A cap, v = .agg (clL basC A cap).toArray ∧ Rv w0 h' A (ints basC.x) ∧ basC.x.length ≤ cap ∧ PH.Le h h' := by
  refine PCalls_body Try.func18 (by kernel_rfl) rfl _ Try.ntmps18 (by kernel_rfl) (by kernel_rfl) _ Try.results18 ?_
  simp -dsimp -implicitDefEqProofs (disch := first | omega | assumption | (simp only [Option.isSome_some, Qt0]; done) | (simp only [UInt64.reduceToNat, UInt32.reduceToNat, UInt8.reduceToNat, List.length_cons, List.length_nil, List.length_append, Int.toNat_natCast] <;> omega)) only [Nat.reduceLT, Nat.reduceLeDiff, Nat.reduceEqDiff, ↓reduceIte, Int.reduceLT, Int.reduceLE, Int.reduceToNat, Int.reduceEq, Int.reduceNe, Nat.reduceAdd, UInt8.reduceOfNat, UInt16.reduceOfNat, UInt32.reduceOfNat, UInt64.reduceOfNat, UInt64.reduceToNat, UInt32.reduceToNat, UInt16.reduceToNat, UInt8.reduceToNat, Int.reduceAdd, Int.reduceSub, Int.reduceMul, Nat.reduceMul, Qp0, Ql0, Qe0]
  refine fun rb hrb => ?_
  have hle := (PH.Le.refl h).new rb ⟨[.string ⟨#[]⟩, .string ⟨#[]⟩, .int .i64 0, .int .i64 0, .int .i64 0, .slice none 0 0], 6⟩ hrb
  have hm : (h.new rb ⟨[.string ⟨#[]⟩, .string ⟨#[]⟩, .int .i64 0, .int .i64 0, .int .i64 0, .slice none 0 0], 6⟩).m rb = some ⟨[.string ⟨#[]⟩, .string ⟨#[]⟩, .int .i64 0, .int .i64 0, .int .i64 0, .slice none 0 0], 6⟩ := by rw [PH.new_m, if_pos rfl]
  have hrb0 : h.top ≤ rb := hrb
  simp -dsimp -implicitDefEqProofs (disch := first | omega | assumption | (simp only [Option.isSome_some, Qt0]; done) | (simp only [UInt64.reduceToNat, UInt32.reduceToNat, UInt8.reduceToNat, List.length_cons, List.length_nil, List.length_append, Int.toNat_natCast] <;> omega)) only [Nat.reduceLT, Nat.reduceLeDiff, Nat.reduceEqDiff, ↓reduceIte, Int.reduceLT, Int.reduceLE, Int.reduceToNat, Int.reduceEq, Int.reduceNe, Nat.reduceAdd, UInt8.reduceOfNat, UInt16.reduceOfNat, UInt32.reduceOfNat, UInt64.reduceOfNat, UInt64.reduceToNat, UInt32.reduceToNat, UInt16.reduceToNat, UInt8.reduceToNat, Int.reduceAdd, Int.reduceSub, Int.reduceMul, Nat.reduceMul, Qp0, Ql0, Qe0]
  generalize h.new rb ⟨[.string ⟨#[]⟩, .string ⟨#[]⟩, .int .i64 0, .int .i64 0, .int .i64 0, .slice none 0 0], 6⟩ = h1 at *
  refine Does_one (v := .int .i64 2) el_intk rfl (by omega) fun ab hab => ?_
  have hrc : (rb = ab) = False := eq_false (by have := h1.lt _ _ hm; omega)
  have hz := allOne_of [str [49, 45, 49], str [97, 110, 110], .int .i64 0, .int .i64 0, .int .i64 0, .slice (some ⟨ab, 0, none⟩) 1 1] rfl
  have hz' := allOne_of [.string ⟨#[49, 45, 49]⟩, .string ⟨#[97, 110, 110]⟩, .int .i64 0, .int .i64 0, .int .i64 0, .slice (some ⟨ab, 0, none⟩) 1 1] rfl
  simp -dsimp -implicitDefEqProofs (disch := first | omega | assumption | (simp only [Option.isSome_some, Qt0]; done) | (simp only [UInt64.reduceToNat, UInt32.reduceToNat, UInt8.reduceToNat, List.length_cons, List.length_nil, List.length_append, Int.toNat_natCast] <;> omega)) only [Nat.reduceLT, Nat.reduceLeDiff, Nat.reduceEqDiff, ↓reduceIte, Int.reduceLT, Int.reduceLE, Int.reduceToNat, Int.reduceEq, Int.reduceNe, Nat.reduceAdd, UInt8.reduceOfNat, UInt16.reduceOfNat, UInt32.reduceOfNat, UInt64.reduceOfNat, UInt64.reduceToNat, UInt32.reduceToNat, UInt16.reduceToNat, UInt8.reduceToNat, Int.reduceAdd, Int.reduceSub, Int.reduceMul, Nat.reduceMul, Qp0, Ql0, Qe0, hz, hz', hrc, hm, List.take_zero, List.drop_succ_cons, List.drop_zero, List.drop_nil, List.nil_append, List.append_nil, rdN_new, List.take_succ_cons, ite_true]
  refine ⟨_, PH.Le.refl _, some ⟨ab, 0, none⟩, 1, rfl, fun j u hj => ?_, by decide, (hle.new ab _ (Nat.le_trans hle.top hab)).new rb _ hrb0⟩
  have hne : ab ≠ rb := by have := h1.lt _ _ hm; omega
  refine ⟨ab, 0, rfl, .inl ⟨⟨[.int .i64 2], 1⟩, by rw [PH.new_m, if_neg hne, PH.new_m, if_pos rfl]; rfl, ?_⟩⟩
  rw [Nat.zero_add]
  exact hj
set_option maxRecDepth 20000 in
theorem great_any (c : Cl) (A : Option Addr) (cap : Nat) (w0 : World) (h : PH) : PCalls Try.prog w0 13 [.agg (clL c A cap).toArray] h fun v h' => v = .bool (greatC c) ∧ PH.Le h h' := by
  refine PCalls_body Try.func13 (by kernel_rfl) rfl _ Try.ntmps13 (by kernel_rfl) (by kernel_rfl) _ Try.results13 ?_
  unfold clL
  simp -dsimp -implicitDefEqProofs (disch := first | omega | assumption | (simp only [Option.isSome_some, Qt0]; done) | (simp only [UInt64.reduceToNat, UInt32.reduceToNat, UInt8.reduceToNat, List.length_cons, List.length_nil, List.length_append, Int.toNat_natCast] <;> omega)) only [Nat.reduceLT, Nat.reduceLeDiff, Nat.reduceEqDiff, ↓reduceIte, Int.reduceLT, Int.reduceLE, Int.reduceToNat, Int.reduceEq, Int.reduceNe, Nat.reduceAdd, UInt8.reduceOfNat, UInt16.reduceOfNat, UInt32.reduceOfNat, UInt64.reduceOfNat, UInt64.reduceToNat, UInt32.reduceToNat, UInt16.reduceToNat, UInt8.reduceToNat, Int.reduceAdd, Int.reduceSub, Int.reduceMul, Nat.reduceMul, Qp0, Ql0, Qe0]
  refine fun pb hpb => ?_
  have hle := (PH.Le.refl h).new pb ⟨[str c.s, str c.u, .int .i64 c.e, .int .i64 c.i, .int .i64 c.k, .slice A c.x.length cap], 6⟩ hpb
  have hp : (h.new pb ⟨[str c.s, str c.u, .int .i64 c.e, .int .i64 c.i, .int .i64 c.k, .slice A c.x.length cap], 6⟩).m pb = some ⟨[str c.s, str c.u, .int .i64 c.e, .int .i64 c.i, .int .i64 c.k, .slice A c.x.length cap], 6⟩ := by rw [PH.new_m, if_pos rfl]
  unfold greatC
  cases b1 : decide (1000 < (c.s.length : Int))
  rotate_left
  · simp -dsimp -implicitDefEqProofs (disch := first | omega | assumption | (simp only [Option.isSome_some, Qt0]; done) | (simp only [UInt64.reduceToNat, UInt32.reduceToNat, UInt8.reduceToNat, List.length_cons, List.length_nil, List.length_append, Int.toNat_natCast] <;> omega)) only [Nat.reduceLT, Nat.reduceLeDiff, Nat.reduceEqDiff, ↓reduceIte, Int.reduceLT, Int.reduceLE, Int.reduceToNat, Int.reduceEq, Int.reduceNe, Nat.reduceAdd, UInt8.reduceOfNat, UInt16.reduceOfNat, UInt32.reduceOfNat, UInt64.reduceOfNat, UInt64.reduceToNat, UInt32.reduceToNat, UInt16.reduceToNat, UInt8.reduceToNat, Int.reduceAdd, Int.reduceSub, Int.reduceMul, Nat.reduceMul, Qp0, Ql0, Qe0, rd_M, rdM_some, hp, gt_iff_lt, b1]
    exact ⟨_, PH.Le.refl _, by trivial, hle⟩
  cases b2 : decide (1000 < (c.u.length : Int))
  rotate_left
  · simp -dsimp -implicitDefEqProofs (disch := first | omega | assumption | (simp only [Option.isSome_some, Qt0]; done) | (simp only [UInt64.reduceToNat, UInt32.reduceToNat, UInt8.reduceToNat, List.length_cons, List.length_nil, List.length_append, Int.toNat_natCast] <;> omega)) only [Nat.reduceLT, Nat.reduceLeDiff, Nat.reduceEqDiff, ↓reduceIte, Int.reduceLT, Int.reduceLE, Int.reduceToNat, Int.reduceEq, Int.reduceNe, Nat.reduceAdd, UInt8.reduceOfNat, UInt16.reduceOfNat, UInt32.reduceOfNat, UInt64.reduceOfNat, UInt64.reduceToNat, UInt32.reduceToNat, UInt16.reduceToNat, UInt8.reduceToNat, Int.reduceAdd, Int.reduceSub, Int.reduceMul, Nat.reduceMul, Qp0, Ql0, Qe0, rd_M, rdM_some, hp, gt_iff_lt, b1, b2]
    exact ⟨_, PH.Le.refl _, by trivial, hle⟩
  simp -dsimp -implicitDefEqProofs (disch := first | omega | assumption | (simp only [Option.isSome_some, Qt0]; done) | (simp only [UInt64.reduceToNat, UInt32.reduceToNat, UInt8.reduceToNat, List.length_cons, List.length_nil, List.length_append, Int.toNat_natCast] <;> omega)) only [Nat.reduceLT, Nat.reduceLeDiff, Nat.reduceEqDiff, ↓reduceIte, Int.reduceLT, Int.reduceLE, Int.reduceToNat, Int.reduceEq, Int.reduceNe, Nat.reduceAdd, UInt8.reduceOfNat, UInt16.reduceOfNat, UInt32.reduceOfNat, UInt64.reduceOfNat, UInt64.reduceToNat, UInt32.reduceToNat, UInt16.reduceToNat, UInt8.reduceToNat, Int.reduceAdd, Int.reduceSub, Int.reduceMul, Nat.reduceMul, Qp0, Ql0, Qe0, rd_M, rdM_some, hp, gt_iff_lt, b1, b2]
  exact ⟨_, PH.Le.refl _, by trivial, hle⟩
/-- What Read tells of a token. -/
theorem RDO_tok {w0 : World} {h0 h' : PH} {al : Int → Prop} {key : Int → List UInt8} {c : Cl} {v : Value} (hr : RDO w0 h0 h' al key (tok key c) v) (hc : rightC c = true) (ha : al c.k) : ∃ A cap, v = .tuple #[.agg (clL c A cap).toArray, .nilIface] ∧ c.x.length ≤ cap ∧ Rv w0 h' A (ints c.x) ∧ ∀ a, A = some a → h0.top ≤ a.block := by
  rcases hr with ⟨d, A, cap, hd, hv, hcap, hrv, hfr⟩ | ⟨hno, _⟩
  · obtain rfl := tok_inj hd.1 hc hd.2.2.symm
    exact ⟨A, cap, hv, hcap, hrv, hfr⟩
  · exact absurd ⟨hc, ha, rfl⟩ (hno c)
/-- .. of what is none. -/
theorem RDO_no {w0 : World} {h0 h' : PH} {al : Int → Prop} {key : Int → List UInt8} {s : List UInt8} {v : Value} (hr : RDO w0 h0 h' al key s v) (hn : ∀ c, ¬ IsT al key s c) : ∃ be t x, v = .tuple #[.agg (clL clZ none 0).toArray, errV be] ∧ h'.m be = some ⟨[str tokenT, .int .i64 s.length, bothV (codeV 9) (.iface t x)], 3⟩ := by
  rcases hr with ⟨d, A, cap, hd, _⟩ | ⟨_, h⟩
  · exact absurd hd (hn d)
  · exact h
theorem is_num {n : Int} {e : Er} {v : Value} (w0 : World) {h : PH} (hv : EV h e v) (hn : e.num = n) : PCalls Try.prog w0 16 [v, codeV n] h fun r h' => r = .bool true ∧ h' = h := by
  have := is_any n w0 h e v hv
  have hb : (e.num == n) = true := by simp [hn]
  rw [hb] at this
  exact this
set_option maxRecDepth 20000 in
set_option maxHeartbeats 4000000 in
theorem wake12 (w0 : World) (h : PH) : PCalls Try.prog w0 9 [] h fun v h' => v = .bool true ∧ PH.Le h h' := by
  refine PCalls_body Try.func9 (by kernel_rfl) rfl _ Try.ntmps9 (by kernel_rfl) (by kernel_rfl) _ Try.results9 ?_
  have hri : right [109] 4 := by decide
  have hN := Lib.hid (new_right [109] 4 hri w0 h)
  simp -dsimp -implicitDefEqProofs (disch := first | omega | assumption | (simp only [Option.isSome_some, Qt0]; done) | (simp only [UInt64.reduceToNat, UInt32.reduceToNat, UInt8.reduceToNat, List.length_cons, List.length_nil, List.length_append, Int.toNat_natCast] <;> omega)) only [Nat.reduceLT, Nat.reduceLeDiff, Nat.reduceEqDiff, ↓reduceIte, Int.reduceLT, Int.reduceLE, Int.reduceToNat, Int.reduceEq, Int.reduceNe, Nat.reduceAdd, UInt8.reduceOfNat, UInt16.reduceOfNat, UInt32.reduceOfNat, UInt64.reduceOfNat, UInt64.reduceToNat, UInt32.reduceToNat, UInt16.reduceToNat, UInt8.reduceToNat, Int.reduceAdd, Int.reduceSub, Int.reduceMul, Nat.reduceMul, Qp0, Ql0, Qe0]
  refine hN.out.mono ?_
  rintro v h1 ⟨b, rfl, hb, rfl⟩
  have hle := (PH.Le.refl h).new b ⟨[str [109], .int .i64 4], 2⟩ hb
  have hmb : (h.new b ⟨[str [109], .int .i64 4], 2⟩).m b = some ⟨[str [109], .int .i64 4], 2⟩ := by rw [PH.new_m, if_pos rfl]
  generalize h.new b ⟨[str [109], .int .i64 4], 2⟩ = h1 at *
  simp -dsimp -implicitDefEqProofs (disch := first | omega | assumption | (simp only [Option.isSome_some, Qt0]; done) | (simp only [UInt64.reduceToNat, UInt32.reduceToNat, UInt8.reduceToNat, List.length_cons, List.length_nil, List.length_append, Int.toNat_natCast] <;> omega)) only [Nat.reduceLT, Nat.reduceLeDiff, Nat.reduceEqDiff, ↓reduceIte, Int.reduceLT, Int.reduceLE, Int.reduceToNat, Int.reduceEq, Int.reduceNe, Nat.reduceAdd, UInt8.reduceOfNat, UInt16.reduceOfNat, UInt32.reduceOfNat, UInt64.reduceOfNat, UInt64.reduceToNat, UInt32.reduceToNat, UInt16.reduceToNat, UInt8.reduceToNat, Int.reduceAdd, Int.reduceSub, Int.reduceMul, Nat.reduceMul, Qp0, Ql0, Qe0]
  refine (basis_any w0 h1).mono ?_
  rintro v h2 ⟨A, cap, rfl, hrv, hcap, hl2⟩
  have hmb2 := hl2.m _ _ hmb
  have hrc : rightC { basC with k := 4 } = true := by decide +kernel
  simp -dsimp -implicitDefEqProofs (disch := first | omega | assumption | (simp only [Option.isSome_some, Qt0]; done) | (simp only [UInt64.reduceToNat, UInt32.reduceToNat, UInt8.reduceToNat, List.length_cons, List.length_nil, List.length_append, Int.toNat_natCast] <;> omega)) only [Nat.reduceLT, Nat.reduceLeDiff, Nat.reduceEqDiff, ↓reduceIte, Int.reduceLT, Int.reduceLE, Int.reduceToNat, Int.reduceEq, Int.reduceNe, Nat.reduceAdd, UInt8.reduceOfNat, UInt16.reduceOfNat, UInt32.reduceOfNat, UInt64.reduceOfNat, UInt64.reduceToNat, UInt32.reduceToNat, UInt16.reduceToNat, UInt8.reduceToNat, Int.reduceAdd, Int.reduceSub, Int.reduceMul, Nat.reduceMul, Qp0, Ql0, Qe0]
  refine (mint_any b [109] 4 hri w0 h2 hmb2 basC A cap hrv hcap (by decide)).mono ?_
  rintro v h3 ⟨hm, hl3⟩
  unfold MINT at hm
  rw [if_pos hrc] at hm
  subst hm
  have hmb3 := hl3.m _ _ hmb2
  have hlen := tok_length (derive [109]) { basC with k := 4 }
  have hbl := bytesC_le hrc
  have hbl2 : 0 < (bytesC { basC with k := 4 }).length := by decide +kernel
  have hdot : (tok (derive [109]) { basC with k := 4 }).getD ((tok (derive [109]) { basC with k := 4 }).length - 44) 0 = 46 := by
    rw [hlen]
    unfold tok
    rw [List.getD, List.getElem?_append_right (by rw [tenc_length]; omega), tenc_length]
    simp
  have hR := tRead_any (.pointer (some ⟨b, 0, none⟩)) (alive 4) (derive [109]) (tok (derive [109]) { basC with k := 4 }) (by omega) w0 h3 (key_ring b [109] 4 hri w0 h3 hmb3)
  have hL : (tok (derive [109]) { basC with k := 4 }).length ≥ 45 := by omega
  have hL2 : (tok (derive [109]) { basC with k := 4 }).length ≤ 4000 := by omega
  have hR := hR.mono (R' := fun v h' => ∃ A cap, v = .tuple #[.agg (clL { basC with k := 4 } A cap).toArray, .nilIface] ∧ PH.Le h3 h') fun v h' ⟨hr, hl⟩ => by
    obtain ⟨A, cap, hv, _, _, _⟩ := RDO_tok hr hrc (by show alive 4 4; decide)
    exact ⟨A, cap, hv, hl⟩
  generalize tok (derive [109]) { basC with k := 4 } = T at *
  clear hlen hbl hbl2
  have hR := Lib.hid hR
  have d1 : decide ((T.length : Int) > 44) = true := decide_eq_true (by omega)
  have d2 : ((T.length : Int) - 44).toNat = T.length - 44 := by omega
  simp -dsimp -implicitDefEqProofs (disch := first | omega | assumption | (simp only [Option.isSome_some, Qt0]; done) | (simp only [UInt64.reduceToNat, UInt32.reduceToNat, UInt8.reduceToNat, List.length_cons, List.length_nil, List.length_append, Int.toNat_natCast] <;> omega)) only [Nat.reduceLT, Nat.reduceLeDiff, Nat.reduceEqDiff, ↓reduceIte, Int.reduceLT, Int.reduceLE, Int.reduceToNat, Int.reduceEq, Int.reduceNe, Nat.reduceAdd, UInt8.reduceOfNat, UInt16.reduceOfNat, UInt32.reduceOfNat, UInt64.reduceOfNat, UInt64.reduceToNat, UInt32.reduceToNat, UInt16.reduceToNat, UInt8.reduceToNat, Int.reduceAdd, Int.reduceSub, Int.reduceMul, Nat.reduceMul, Qp0, Ql0, Qe0]
  refine hR.out.mono ?_
  rintro v h4 ⟨B, cap', rfl, hl4⟩
  rw [show clL { basC with k := 4 } B cap' = [str [49, 45, 49], str [97, 110, 110], .int .i64 0, .int .i64 0, .int .i64 4, .slice B 1 cap'] from rfl]
  simp -dsimp -implicitDefEqProofs (disch := first | omega | assumption | (simp only [Option.isSome_some, Qt0]; done) | (simp only [UInt64.reduceToNat, UInt32.reduceToNat, UInt8.reduceToNat, List.length_cons, List.length_nil, List.length_append, Int.toNat_natCast] <;> omega)) only [Nat.reduceLT, Nat.reduceLeDiff, Nat.reduceEqDiff, ↓reduceIte, Int.reduceLT, Int.reduceLE, Int.reduceToNat, Int.reduceEq, Int.reduceNe, Nat.reduceAdd, UInt8.reduceOfNat, UInt16.reduceOfNat, UInt32.reduceOfNat, UInt64.reduceOfNat, UInt64.reduceToNat, UInt32.reduceToNat, UInt16.reduceToNat, UInt8.reduceToNat, Int.reduceAdd, Int.reduceSub, Int.reduceMul, Nat.reduceMul, Qp0, Ql0, Qe0]
  refine fun cb hcb => ?_
  have hz2 := allOne_of [str [49, 45, 49], str [97, 110, 110], .int .i64 0, .int .i64 0, .int .i64 4, .slice B 1 cap'] rfl
  have hle4 := ((hle.trans hl2).trans hl3).trans hl4
  simp -dsimp -implicitDefEqProofs (disch := first | omega | assumption | (simp only [Option.isSome_some, Qt0]; done) | (simp only [UInt64.reduceToNat, UInt32.reduceToNat, UInt8.reduceToNat, List.length_cons, List.length_nil, List.length_append, Int.toNat_natCast] <;> omega)) only [Nat.reduceLT, Nat.reduceLeDiff, Nat.reduceEqDiff, ↓reduceIte, Int.reduceLT, Int.reduceLE, Int.reduceToNat, Int.reduceEq, Int.reduceNe, Nat.reduceAdd, UInt8.reduceOfNat, UInt16.reduceOfNat, UInt32.reduceOfNat, UInt64.reduceOfNat, UInt64.reduceToNat, UInt32.reduceToNat, UInt16.reduceToNat, UInt8.reduceToNat, Int.reduceAdd, Int.reduceSub, Int.reduceMul, Nat.reduceMul, Qp0, Ql0, Qe0, hz2, PH.new_new, List.take_zero, List.drop_succ_cons, List.drop_zero, List.drop_nil, List.nil_append, List.append_nil, rdN_new, List.take_succ_cons, ite_true, rd_M, rdM_some, d1, d2, hdot, if_true]
  exact ⟨_, PH.Le.refl _, by trivial, hle4.new cb _ (Nat.le_trans hle4.top hcb)⟩
end Go.Proofs.Ytdlaoeepeakpeaa


/- Lemmas on worlds, blocks and rows that every claim of this seat uses: a law that returns true and leaves what was there alone meets its row. No condition. -/
namespace Go.Proofs.Ytdlaoeepeakpeaa.Base
set_option linter.unusedVariables false
set_option linter.unusedSimpArgs false
open Go.ChangeShapes Go.WideShapes Go.ChangeAt Go.RowKit Go.Deep

theorem own : ownKnob Try.prog.godebug = none := by kernel_rfl
theorem laidOut : laidOutB Try.prog = true := by kernel_rfl

/-- Block b is just these cells of type t, none of them frozen. -/
def Blk (w : World) (b : Nat) (t : TypeId) (cs : Array Value) : Prop := w.heap[b]? = some (.cells cs t (0, 0))

section
variable {w w' : World} {b : Nat} {t : TypeId} {cs : Array Value}
theorem Blk.lt (h : Blk w b t cs) : b < w.heap.size := (Array.getElem?_eq_some_iff.1 h).1
theorem Blk.cell (h : Blk w b t cs) (i : Nat) : w.cell? ⟨b, i, none⟩ = cs[i]? := cell_of_row w b i cs t (0, 0) h
theorem Blk.frozen (h : Blk w b t cs) (i : Nat) : w.frozen? ⟨b, i, none⟩ = false := by
  unfold Blk at h
  simp [World.frozen?, h]
theorem Blk.new (w : World) (t : TypeId) (cs : Array Value) : Blk (w.alloc (.cells cs t)) w.heap.size t cs := heap_alloc_new w _
theorem Blk.drew (h : Blk w b t cs) : Blk w.drew b t cs := h
theorem Blk.alloc (h : Blk w b t cs) (o : Obj) : Blk (w.alloc o) b t cs := (Below.heap_alloc w o b h.lt).trans h
theorem Blk.set_ (h : Blk w b t cs) (i : Nat) (u : Value) : Blk (w.setCell ⟨b, i, none⟩ u) b t (cs.setIfInBounds i u) := by
  unfold Blk at h ⊢
  simp [World.setCell, Array.getElem?_modify, h]
theorem Blk.below {B : Nat} (h : Blk w b t cs) (hb : Below B w w') (hlt : b < B) : Blk w' b t cs := (hb.block b hlt).trans h
theorem Blk.on (h : Blk w b t cs) (hb : Below w.heap.size w w') : Blk w' b t cs := h.below hb h.lt
theorem Blk.grown {row : Option Nat} (h : Blk w b t cs) (hb : w.grownBy w' row) (hne : some b ≠ row) : Blk w' b t cs := (hb.block b h.lt hne).trans h
end

/-- The arguments read behind the call as before it. -/
theorem args_keep {H : Type} {enc : TypeId × Value → H} {P : Program} (hl : laidOutB P = true) {W W' : World} (hb : Below W.heap.size W W') :
    ∀ {ts : List TypeId} {vs : List Value} {ds : List (DataW H)} {ps : List MemPlace}, (∀ t ∈ ts, P.readableRec t = true ∧ t < P.types.size) → (∀ x ∈ ps, x.block < W.heap.size) →
      DataW.TrodAll enc P W 0 (fun _ => true) true ts vs ds ps → DataW.TrodAll enc P W' 0 (fun b => decide (b < W.heap.size)) true ts vs ds ps
  | [], _, _, _, _, _, h => by
    obtain ⟨rfl, rfl, rfl⟩ := trodAll_nil h
    exact trodAll_mk0
  | t :: ts, _, _, _, hts, hlt, h => by
    obtain ⟨v, vs', d, ds', p, p', rfl, rfl, rfl, h0, h1⟩ := trodAll_cons h
    have ht := hts t List.mem_cons_self
    exact trodAll_cons_mk (Below.trod hl ht.1 ht.2 h0 hb fun x hx => hlt x (List.mem_append_left _ hx))
      (args_keep hl hb (fun t' ht' => hts t' (List.mem_cons_of_mem _ ht')) (fun x hx => hlt x (List.mem_append_right _ hx)) h1)

/-- A law that returns true, over a world of which nothing old has turned, meets what its row asks at the end. -/
theorem law_post {H : Type} {enc : TypeId × Value → H} {P : Program} (hl : laidOutB P = true) {fn : Func} {s : ChangeSpec} {W W' : World} {args : Array Value} {ds gs : List (DataW H)} {before : List MemPlace} {tb : TypeId}
    (hW : DataW.Whole enc P fn.params.toList s.vars false W args.toList ds gs before)
    (hres : (s.fn H (ds ++ gs)).results = [.lit (.bool true)]) (hargs : (s.fn H (ds ++ gs)).args = ds) (hvars : (s.fn H (ds ++ gs)).vars = gs)
    (hrt : fn.resultTypes = #[tb]) (htb : P.underlying tb = some .bool) (hts : ∀ t ∈ fn.params.toList, P.readableRec t = true ∧ t < P.types.size) (hvr : varsRowed P s.vars = true)
    (hb : Below W.heap.size W W') : s.post enc P fn false true false false W args (.bool true) W' := by
  have hW' := hW
  obtain ⟨p, q, hA, hV, rfl, _, _⟩ := hW
  have hlt : ∀ x ∈ p ++ q, x.block < W.heap.size := fun x hx => by simpa using hW'.lt x hx
  refine ⟨ds, gs, p ++ q, [], p, q, hW', ?_, ?_, ?_, hb.frame _, fun h => by cases h⟩
  · rw [hres, hrt]
    exact trodAll_mk1 (shut_bool htb _)
  · rw [hargs]
    exact args_keep hl hb hts (fun x hx => hlt x (List.mem_append_left _ hx)) hA
  · rw [hvars]
    exact Below.trodVars hl hb hvr hV

theorem u8_bounds {n : Int} (h : (Lit.int .u8 n).wf = true) : 0 ≤ n ∧ n ≤ 255 := by
  simpa [Lit.wf, IntKind.min, IntKind.max, IntKind.signed, IntKind.bits] using h
theorem u16_bounds {n : Int} (h : (Lit.int .u16 n).wf = true) : 0 ≤ n ∧ n ≤ 65535 := by
  simpa [Lit.wf, IntKind.min, IntKind.max, IntKind.signed, IntKind.bits] using h

/-- A slice at A of n elements reads as these cells ('size' cells an element), which lie below block B. -/
def Rd (w : World) (B size : Nat) (A : Option Addr) (n : Nat) (xs : List Value) : Prop :=
  xs.length = n * size ∧ (0 < n → ∃ b o, A = some ⟨b, o, none⟩ ∧ b < B ∧ ∀ j u, xs[j]? = some u → w.cell? ⟨b, o + j, none⟩ = some u)

section
variable {w w' : World} {B B' size n : Nat} {A : Option Addr} {xs : List Value}
theorem Rd.none_ (w : World) (B size : Nat) (A : Option Addr) : Rd w B size A 0 [] := ⟨by simp, fun h => absurd h (by omega)⟩
theorem Rd.keep (h : Rd w B size A n xs) (hk : ∀ p : Addr, p.block < B → w'.cell? p = w.cell? p) : Rd w' B size A n xs :=
  ⟨h.1, fun hn => by
    obtain ⟨b, o, e, hb, hc⟩ := h.2 hn
    exact ⟨b, o, e, hb, fun j u hu => (hk _ hb).trans (hc j u hu)⟩⟩
theorem Rd.on (h : Rd w B size A n xs) (hb : Below B w w') : Rd w' B size A n xs := h.keep fun _ hp => hb.cell hp
theorem Rd.more (h : Rd w B size A n xs) (hB : B ≤ B') : Rd w B' size A n xs :=
  ⟨h.1, fun hn => by
    obtain ⟨b, o, e, hb, hc⟩ := h.2 hn
    exact ⟨b, o, e, by omega, hc⟩⟩
theorem Rd.next (h : Rd w w.heap.size size A n xs) (hb : Below w.heap.size w w') : Rd w' w'.heap.size size A n xs := (h.on hb).more hb.size
theorem Rd.drew (h : Rd w B size A n xs) : Rd w.drew B size A n xs := h
theorem Rd.alloc (h : Rd w B size A n xs) (hB : B ≤ w.heap.size) (o : Obj) : Rd (w.alloc o) B size A n xs := h.keep fun p hp => World.cell?_alloc_lt w o p (by omega)
end

/-- Cells in a block of their own read as a slice. -/
theorem Rd.blk {w : World} {b : Nat} {t : TypeId} {l : List Value} {size m : Nat} (h : Blk w b t l.toArray) (hm : l.length = m * size) : Rd w w.heap.size size (some ⟨b, 0, none⟩) m l :=
  ⟨hm, fun _ => ⟨b, 0, rfl, h.lt, fun j u hu => by rw [h.cell, Nat.zero_add]; simpa using hu⟩⟩

theorem Rd.new (w : World) (t : TypeId) (l : List Value) {b size m : Nat} (hb : b = w.heap.size) (hm : l.length = m * size) : Rd (w.alloc (.cells l.toArray t)) (w.alloc (.cells l.toArray t)).heap.size size (some ⟨b, 0, none⟩) m l := by
  subst hb
  exact Rd.blk (Blk.new _ _ _) hm

/-- 'x[k:]' of a slice whose elements are one cell. -/
theorem Rd.cut1 {w : World} {B b o m k c : Nat} {xs : List Value} (h : Rd w B 1 (some ⟨b, o, none⟩) m xs) (hk : k ≤ m) (hc : m ≤ c) :
    Rd w B 1 (if c = k then some ⟨b, o, none⟩ else some ⟨b, o + k, none⟩) (m - k) (xs.drop k) := by
  refine ⟨by rw [List.length_drop, h.1]; omega, fun hn => ?_⟩
  obtain ⟨b', o', e, hb, hcell⟩ := h.2 (by omega)
  injection e with e
  injection e with e1 e2
  subst e1 e2
  rw [if_neg (by omega)]
  refine ⟨b, o + k, rfl, hb, fun j u hu => ?_⟩
  rw [Nat.add_assoc]
  exact hcell _ u (by rw [← hu, List.getElem?_drop])

/-- A slice's length. -/
def lenOf : Value → Nat
  | .slice _ n _ => n
  | _ => 0

section
variable {P : Program} {w : World}
end

theorem ints_one (k : IntKind) (zs : List Int) : ∀ u ∈ zs.map (Value.int k), u.oneCell' = true := ints_oneCell k zs

section
variable {H : Type} {enc : TypeId × Value → H} {P : Program} {W : World} {b0 : Nat} {r : Reach} {t e : TypeId} {v : Value} {d : DataW H} {p : List MemPlace}

/-- Elements that are numbers. -/
theorem rd_ints {xs : List Value} {n : Nat} {k : IntKind} (he : P.underlying e = some (.int k)) (hC : P.cellsOf e = 1) (hl : xs.length = n * P.cellsOf e)
    (hall : ∀ i, i < n → ∃ f y, DataW.trod enc P W 0 (fun _ => true) true f e ((xs.drop (i * P.cellsOf e)).take (P.cellsOf e)) = some y) :
    ∃ zs : List Int, xs = zs.map (Value.int k) ∧ ∀ z ∈ zs, (Lit.int k z).wf = true := by
  rw [hC, Nat.mul_one] at hl
  have hx : ∀ i (h : i < xs.length), ∃ z, xs[i] = .int k z ∧ (Lit.int k z).wf = true := by
    intro i h
    obtain ⟨f, y, hy⟩ := hall i (by omega)
    have h1 : (xs.drop i).take 1 = [xs[i]] := by rw [List.drop_eq_getElem_cons h]; rfl
    rw [hC, Nat.mul_one, h1] at hy
    obtain ⟨z, hz, _, hw⟩ := DataW.trod_int he hy
    exact ⟨z, (List.cons.inj hz).1, hw⟩
  clear hall hl
  induction xs with
  | nil => exact ⟨[], rfl, by simp⟩
  | cons x xs ih =>
    obtain ⟨z, hz, hw⟩ := hx 0 (by simp)
    obtain ⟨zs, hzs, hws⟩ := ih (fun i h => hx (i + 1) (by simpa using h))
    simp at hz
    exact ⟨z :: zs, by rw [hz, hzs]; rfl, by intro y hy; rcases List.mem_cons.1 hy with rfl | hy; exact hw; exact hws y hy⟩

end

/-- Of what was there block p alone may have turned. -/
def Only (p : Nat) (w w' : World) : Prop := w.grownBy w' (some p)
section
variable {p : Nat} {w w' w'' : World}
theorem Only.refl (p : Nat) (w : World) : Only p w w := World.grownBy.refl w _
theorem Only.trans (h : Only p w w') (k : Only p w' w'') : Only p w w'' :=
  ⟨k.os.trans h.os, k.tape.trans h.tape, k.output.trans h.output, Nat.le_trans h.size k.size, fun j hj hne => (k.block j (Nat.lt_of_lt_of_le hj h.size) hne).trans (h.block j hj hne)⟩
theorem Only.setCell (w : World) (p i : Nat) (u : Value) : Only p w (w.setCell ⟨p, i, none⟩ u) :=
  ⟨rfl, rfl, rfl, by simp [World.setCell], fun k _ hk => Below.heap_setCell _ _ _ _ (by intro e; exact hk (by rw [e]))⟩
theorem Only.below {B : Nat} {W0 : World} (h : Only p w w') (hb : Below B W0 w) (hB : B ≤ p) (hs : B ≤ w.heap.size) : Below B W0 w' :=
  hb.grown h hs fun k hk => by injection hk with hk; omega
theorem Blk.only {b : Nat} {t : TypeId} {cs : Array Value} (h : Blk w b t cs) (ho : Only p w w') (hne : b ≠ p) : Blk w' b t cs := h.grown ho (by intro e; injection e with e; exact hne e)
end
end Go.Proofs.Ytdlaoeepeakpeaa.Base


/- Arguments that are lists of texts: what is read of them. No condition. -/
namespace Go.Proofs.Ytdlaoeepeakpeaa
set_option linter.unusedVariables false
set_option linter.unusedSimpArgs false
open Go.ChangeShapes Go.WideShapes Go.ChangeAt Go.RowKit Base Px
theorem trod_str {H : Type} {enc : TypeId × Value → H} {w : World} {base : Nat} {spare : Nat → Bool} {held : Bool} {n : Nat} {t : TypeId} {u : Value} {y : DataW H × List MemPlace} (ht : Try.prog.underlying t = some .string) (h : DataW.trod enc Try.prog w base spare held n t [u] = some y) : ∃ l : List UInt8, u = str l ∧ l.length ≤ maxLen := by
  obtain ⟨s, h1, _, h2⟩ := DataW.trod_string ht h
  simp at h1
  subst h1
  exact ⟨s.data.toList, rfl, h2⟩
theorem rd_param {w : World} {sz n b o : Nat} {xs : List Value} (hr : Rd w w.heap.size sz (some ⟨b, o, none⟩) n xs) (hn : 0 < n) : b < w.heap.size ∧ ∀ j u, xs[j]? = some u → rdM w none b (o + j) = some u := by
  obtain ⟨b', o', e, hb, hc⟩ := hr.2 hn
  have e := Option.some.inj e
  injection e with e1 e2 e3
  subst e1; subst e2
  exact ⟨hb, fun j u hj => by unfold rdM; simp only; rw [if_pos hb]; exact hc j u hj⟩
theorem rd_param_addr {w : World} {sz n : Nat} {A : Option Addr} {xs : List Value} (hr : Rd w w.heap.size sz A n xs) (hn : 0 < n) : ∃ b o, A = some ⟨b, o, none⟩ := by
  obtain ⟨b, o, h, _⟩ := hr.2 hn; exact ⟨b, o, h⟩
end Go.Proofs.Ytdlaoeepeakpeaa


/- Arguments that are lists of structs: one Lean value for each. No condition. -/
namespace Go.Proofs.Ytdlaoeepeakpeaa
set_option linter.unusedVariables false
set_option linter.unusedSimpArgs false
open Go.ChangeShapes Go.WideShapes Go.ChangeAt Go.RowKit Go.Deep Base Px
theorem trod_i64 {H : Type} {enc : TypeId × Value → H} {w : World} {base : Nat} {spare : Nat → Bool} {held : Bool} {n : Nat} {t : TypeId} {u : Value} {y : DataW H × List MemPlace} (ht : Try.prog.underlying t = some (.int .i64)) (h : DataW.trod enc Try.prog w base spare held n t [u] = some y) : ∃ a : Int, u = .int .i64 a ∧ (Lit.int .i64 a).wf = true := by
  obtain ⟨a, h1, _, h2⟩ := DataW.trod_int ht h
  simp at h1
  exact ⟨a, h1, h2⟩
/-- A slice that stands in a cell of what came in: its cells, and each element's own reading. -/
theorem rd_of_trod {H : Type} {enc : TypeId × Value → H} {W : World} {t e : TypeId} {u : Value} {fuel : Nat} {y : DataW H × List MemPlace} (ht : Try.prog.underlying t = some (.slice e)) (hC : 0 < Try.prog.cellsOf e) (hf : DataW.trod enc Try.prog W 0 (fun _ => true) true fuel t [u] = some y) :
    ∃ (A : Option Addr) (n c : Nat) (xs : List Value), u = .slice A n c ∧ n ≤ c ∧ c ≤ maxLen ∧ Rd W W.heap.size (Try.prog.cellsOf e) A n xs ∧
      ∀ i, i < n → ∃ f y, DataW.trod enc Try.prog W 0 (fun _ => true) true f e ((xs.drop (i * Try.prog.cellsOf e)).take (Try.prog.cellsOf e)) = some y := by
  rcases open_slice ht hf with ⟨hcs, _⟩ | ⟨a, n0, c, m, k, D, Pl, hcs, _, hl, hm, hmm, hx, hi⟩
  · simp at hcs
    subst hcs
    exact ⟨none, 0, 0, [], rfl, by omega, by simp, Rd.none_ _ _ _ _, fun i hi => absurd hi (by omega)⟩
  · simp at hcs
    subst hcs
    simp only [if_true] at hmm
    subst hmm
    have hcell : ∀ j, j < m * Try.prog.cellsOf e → ∃ u, W.cell? (a.add j) = some u := by
      intro j hj
      obtain ⟨cs', hc', _⟩ := hi (j / Try.prog.cellsOf e) (Nat.div_lt_of_lt_mul (by rw [Nat.mul_comm]; exact hj))
      obtain ⟨_, hlen, hat⟩ := World.cells?_some hc'
      have hr := Nat.mod_lt j hC
      have := hat (j % Try.prog.cellsOf e) hr
      rw [add_add, Nat.mul_comm, Nat.div_add_mod] at this
      exact ⟨cs'[j % Try.prog.cellsOf e]'(by omega), by rw [this]; exact List.getElem?_eq_getElem _⟩
    have hget : ∀ j u, ((List.range (n0 * Try.prog.cellsOf e)).map fun j => (W.cell? (a.add j)).getD undef)[j]? = some u → W.cell? (a.add j) = some u := by
      intro j u hu
      have hj : j < n0 * Try.prog.cellsOf e := by have := (List.getElem?_eq_some_iff.1 hu).1; simpa using this
      obtain ⟨u', hu'⟩ := hcell j (Nat.lt_of_lt_of_le hj (Nat.mul_le_mul_right _ hl))
      simp [hj, hu'] at hu
      rw [hu', hu]
    refine ⟨some a, n0, m, (List.range (n0 * Try.prog.cellsOf e)).map fun j => (W.cell? (a.add j)).getD undef, rfl, hl, hm, ⟨by simp, fun hn => ?_⟩, fun i hin => ?_⟩
    · obtain ⟨u, hu⟩ := hcell 0 (Nat.mul_pos (by omega) hC)
      obtain ⟨b, o, s⟩ := a
      have hs : s = none := by simpa [Addr.add] using World.cell?_spot hu
      subst hs
      refine ⟨b, o, rfl, by simpa [Addr.add] using World.block_lt_of_cell? W _ hu, fun j u hu => ?_⟩
      have := hget j u hu
      rwa [Addr.add_lit] at this
    · obtain ⟨cs', hc', ht'⟩ := hi i (by omega)
      obtain ⟨_, hlen, hat⟩ := World.cells?_some hc'
      refine ⟨k, (D i, Pl i), ?_⟩
      rw [show ((((List.range (n0 * Try.prog.cellsOf e)).map fun j => (W.cell? (a.add j)).getD undef).drop (i * Try.prog.cellsOf e)).take (Try.prog.cellsOf e)) = cs' from ?_]
      · exact ht'
      · have hle : (i + 1) * Try.prog.cellsOf e ≤ n0 * Try.prog.cellsOf e := Nat.mul_le_mul_right _ hin
        rw [Nat.add_mul, Nat.one_mul] at hle
        apply List.ext_getElem?
        intro q
        by_cases hq : q < Try.prog.cellsOf e
        · have h1 := hat q hq
          rw [add_add] at h1
          have h2 : cs'[q]? = some (cs'[q]'(by omega)) := List.getElem?_eq_getElem _
          rw [List.getElem?_take_of_lt hq, List.getElem?_drop, List.getElem?_map, List.getElem?_range (by omega), Option.map_some, h1, h2]
          rfl
        · rw [List.getElem?_eq_none (by simp; omega), List.getElem?_eq_none (by omega)]
/-- What came in, as cells that are read. -/
theorem Rd.rv {w : World} {n : Nat} {A : Option Addr} {xs : List Value} (hr : Rd w w.heap.size 1 A n xs) (h : PH) : ∀ (j : Nat) (u : Value), xs[j]? = some u → ∃ b o, A = some ⟨b, o, none⟩ ∧ b < w.heap.size ∧ rdM w none b (o + j) = some u := fun j u e => by
  have hn : 0 < n := by
    have h1 := (List.getElem?_eq_some_iff.1 e).1
    have h2 := hr.1
    omega
  obtain ⟨b, o, rfl⟩ := rd_param_addr hr hn
  obtain ⟨hb, hrd⟩ := rd_param hr hn
  exact ⟨b, o, rfl, hb, hrd j u e⟩
end Go.Proofs.Ytdlaoeepeakpeaa


/- The laws' arguments: fields of what comes in. No condition. -/
namespace Go.Proofs.Ytdlaoeepeakpeaa
set_option linter.unusedVariables false
set_option linter.unusedSimpArgs false
open Go.ChangeShapes Go.WideShapes Go.ChangeAt Go.RowKit Base Px Wr
set_option maxRecDepth 20000
theorem open_fields {P : Program} {H : Type} {enc : TypeId × Value → H} {w : World} {base b0 : Nat} {spare : Nat → Bool} {held : Bool} {r : Reach} {t : TypeId} {fs : Array Field} {v : Value} {d : DataW H} {p : List MemPlace} (ht : P.underlying t = some (.struct fs))
    (hv : Value.okWide P w r b0 t v) (h : DataW.Trod enc P w base spare held t v d p) :
    ∃ (l : List Value) (n : Nat), v = .agg l.toArray ∧ l.length = P.cellsOf t ∧ ∀ (i : Nat) (f : Field), fs[i]? = some f → ∃ y, DataW.trod enc P w base spare held n f.type ((l.drop f.offset).take (P.cellsOf f.type)) = some y := by
  obtain ⟨⟨l⟩, rfl, hsz⟩ := okWide_struct ht hv
  obtain ⟨fuel, hf⟩ := h
  obtain ⟨xs, n, _, _, hlen, hxl, hat⟩ := DataW.trod_struct ht hf
  refine ⟨l, n, rfl, by simpa using hsz, fun i f hi => ?_⟩
  have hil : i < fs.size := (Array.getElem?_eq_some_iff.1 hi).1
  have h1 := hat i f hi
  rw [List.getElem?_eq_getElem (by omega)] at h1
  exact ⟨_, h1⟩
theorem c_int : Try.prog.cellsOf 3 = 1 := by kernel_rfl
theorem c_str : Try.prog.cellsOf 9 = 1 := by kernel_rfl
theorem Rv.par {w : World} {n : Nat} {A : Option Addr} {xs : List Value} (hr : Rd w w.heap.size 1 A n xs) (h : PH) : Rv w h A xs := fun j u e => by
  obtain ⟨b, o, h1, h2, h3⟩ := Rd.rv hr h j u e
  exact ⟨b, o, h1, .inr ⟨h2, h3⟩⟩
end Go.Proofs.Ytdlaoeepeakpeaa


/- The laws' arguments: claims and writes that come in. No condition. -/
namespace Go.Proofs.Ytdlaoeepeakpeaa
set_option linter.unusedVariables false
set_option linter.unusedSimpArgs false
open Go.ChangeShapes Go.WideShapes Go.ChangeAt Go.RowKit Base Px Wr
set_option maxRecDepth 20000
theorem c_vec : Try.prog.cellsOf 29 = 1 := by kernel_rfl
theorem c_cl : Try.prog.cellsOf 31 = 6 := by kernel_rfl
section
variable {H : Type} {enc : TypeId × Value → H} {w : World} {b0 : Nat} {r : Reach} {v : Value} {d : DataW H} {p : List MemPlace}
end
end Go.Proofs.Ytdlaoeepeakpeaa


/- An argument that is a struct of claims: what it holds, and how long its vector may be. No condition. -/
namespace Go.Proofs.Ytdlaoeepeakpeaa
set_option linter.unusedVariables false
set_option linter.unusedSimpArgs false
open Go.ChangeShapes Go.WideShapes Go.ChangeAt Go.RowKit Go.Deep Base Px Wr
theorem ints_of_trod_b {H : Type} {enc : TypeId × Value → H} {W : World} {t : TypeId} {u : Value} {fuel : Nat} {y : DataW H × List MemPlace} (ht : Try.prog.underlying t = some (.slice 3)) (hf : DataW.trod enc Try.prog W 0 (fun _ => true) true fuel t [u] = some y) :
    ∃ (A : Option Addr) (c : Nat) (z : List Int), u = .slice A z.length c ∧ z.length ≤ c ∧ Rd W W.heap.size 1 A z.length (z.map (Value.int .i64)) ∧ c ≤ maxLen := by
  have hC : Try.prog.cellsOf 3 = 1 := by kernel_rfl
  obtain ⟨A, n, c, xs, rfl, hn, hcm, hr, hall⟩ := rd_of_trod ht (by rw [hC]; omega) hf
  obtain ⟨z, rfl, hz⟩ := rd_ints (k := .i64) Try.underlying3 hC hr.1 hall
  rw [hC] at hr
  have hl : z.length = n := by simpa using hr.1
  subst hl
  exact ⟨A, c, z, rfl, hn, hr, hcm⟩
section
variable {H : Type} {enc : TypeId × Value → H} {w : World} {b0 : Nat} {r : Reach} {v : Value} {d : DataW H} {p : List MemPlace}
set_option maxRecDepth 20000 in
theorem open_clb (hv : Value.okWide Try.prog w r b0 31 v) (h : DataW.Trod enc Try.prog w 0 (fun _ => true) true 31 v d p) :
    ∃ (c : Cl) (A : Option Addr) (cap : Nat), v = .agg (clL c A cap).toArray ∧ (c.x.length ≤ cap ∧ c.x.length ≤ 9223372036854775807) ∧ ∀ h, Rv w h A (ints c.x) := by
  obtain ⟨l, n, rfl, hl, hat⟩ := open_fields Try.underlying31 hv h
  rw [c_cl] at hl
  match l, hl with
  | [c0, c1, c2, c3, c4, c5], _ =>
    obtain ⟨_, t0⟩ := hat 0 ⟨_, _, _, _, _, _, _⟩ rfl
    obtain ⟨_, t1⟩ := hat 1 ⟨_, _, _, _, _, _, _⟩ rfl
    obtain ⟨_, t2⟩ := hat 2 ⟨_, _, _, _, _, _, _⟩ rfl
    obtain ⟨_, t3⟩ := hat 3 ⟨_, _, _, _, _, _, _⟩ rfl
    obtain ⟨_, t4⟩ := hat 4 ⟨_, _, _, _, _, _, _⟩ rfl
    obtain ⟨_, t5⟩ := hat 5 ⟨_, _, _, _, _, _, _⟩ rfl
    simp only [c_int, c_str, c_vec, List.drop_zero, List.drop_succ_cons, List.take_succ_cons, List.take_zero] at t0 t1 t2 t3 t4 t5
    obtain ⟨s, rfl, _⟩ := trod_str Try.underlying9 t0
    obtain ⟨u, rfl, _⟩ := trod_str Try.underlying9 t1
    obtain ⟨e, rfl, _⟩ := trod_i64 Try.underlying3 t2
    obtain ⟨i, rfl, _⟩ := trod_i64 Try.underlying3 t3
    obtain ⟨k, rfl, _⟩ := trod_i64 Try.underlying3 t4
    obtain ⟨A, cap, z, rfl, hz, hr, hb⟩ := ints_of_trod_b Try.underlying29 t5
    exact ⟨⟨s, u, e, i, k, z⟩, A, cap, rfl, ⟨hz, by unfold maxLen at hb; simp only; omega⟩, fun h => Rv.par hr h⟩
end
end Go.Proofs.Ytdlaoeepeakpeaa


/- More lemmas on arguments: elements that are arrays. No condition. -/
namespace Go.Proofs.Ytdlaoeepeakpeaa.Base
set_option linter.unusedVariables false
set_option linter.unusedSimpArgs false
open Go.ChangeShapes Go.WideShapes Go.ChangeAt Go.RowKit Go.Deep

theorem Blk.setCells {b : Nat} {t : TypeId} (vs : List Value) : ∀ (o : Nat) {cs : List Value} {w : World}, Blk w b t cs.toArray → o + vs.length ≤ cs.length → Blk (w.setCells b o vs) b t (cs.take o ++ vs ++ cs.drop (o + vs.length)).toArray := by
  induction vs with
  | nil => intro o cs w h _; simpa [World.setCells] using h
  | cons v vs ih =>
    intro o cs w h hl
    have h1 := h.set_ o v
    rw [List.setIfInBounds_toArray] at h1
    have h2 := ih (o + 1) h1 (by simp at hl ⊢; omega)
    have e : (cs.set o v).take (o + 1) ++ vs ++ (cs.set o v).drop (o + 1 + vs.length) = cs.take o ++ (v :: vs) ++ cs.drop (o + (v :: vs).length) := by
      have ho : o < cs.length := by simp at hl; omega
      rw [List.drop_set_of_lt (by omega), List.take_add_one, List.getElem?_set_self (by omega), List.take_set_of_le (by omega)]
      simp [Nat.add_assoc, Nat.add_comm 1]
    rw [e] at h2
    exact h2
theorem Only.setCells {p : Nat} (vs : List Value) : ∀ (o : Nat) {w w' : World}, Only p w w' → Only p w (w'.setCells p o vs) := by
  induction vs with
  | nil => intro o w w' h; simpa [World.setCells] using h
  | cons v vs ih => intro o w w' h; exact ih (o + 1) (h.trans (Only.setCell w' p o v))

theorem u8_lit {n : Int} (h : (Lit.int .u8 n).wf = true) : ∃ x : UInt8, n = (x.toNat : Int) := by
  obtain ⟨h0, h1⟩ := u8_bounds h
  refine ⟨UInt8.ofNat n.toNat, ?_⟩
  rw [UInt8.toNat_ofNat']
  omega
theorem u16_lit {n : Int} (h : (Lit.int .u16 n).wf = true) : ∃ x : UInt16, n = (x.toNat : Int) := by
  obtain ⟨h0, h1⟩ := u16_bounds h
  refine ⟨UInt16.ofNat n.toNat, ?_⟩
  rw [UInt16.toNat_ofNat']
  omega
end Go.Proofs.Ytdlaoeepeakpeaa.Base


/- Tokens that are cut or have more behind them; how often a byte stands in a text. No condition. -/
namespace Go.Proofs.Ytdlaoeepeakpeaa
set_option linter.unusedVariables false
set_option linter.unusedSimpArgs false
open Go.RowKit Px Wr
theorem tok_pre {key : Int → List UInt8} {c d : Cl} {r : List UInt8} (h : tok key c = tok key d ++ r) : r = [] := by
  have h1 := cut_tok key c
  have h2 : cut1 (tok key d ++ r) = some (Tx.enc (bytesC d), Tx.enc (tag (key d.k) (bytesC d)) ++ r) := by
    unfold tok
    rw [List.append_assoc, List.cons_append]
    exact cut1_at _ _ (enc_nodot _)
  rw [h, h2] at h1
  injection h1 with h1
  injection h1 with _ h1
  have h3 := congrArg List.length h1
  have l1 := tag_length (key d.k) (bytesC d)
  have l2 := tag_length (key c.k) (bytesC c)
  rw [List.length_append, tenc_length, tenc_length, l1, l2] at h3
  exact List.length_eq_zero_iff.1 (by omega)
theorem cut_no {al : Int → Prop} {key : Int → List UInt8} {c : Cl} {n : Nat} (hn : n < (tok key c).length) : ∀ d, ¬ IsT al key ((tok key c).take n) d := fun d hd => by
  have h : tok key c = tok key d ++ (tok key c).drop n := by rw [← hd.2.2, List.take_append_drop]
  have := congrArg List.length (tok_pre h)
  simp only [List.length_drop, List.length_nil] at this
  omega
theorem more_no {al : Int → Prop} {key : Int → List UInt8} {c : Cl} {x : UInt8} : ∀ d, ¬ IsT al key (tok key c ++ [x]) d := fun d hd => by
  have := tok_pre hd.2.2.symm
  simp at this
theorem dot_count (key : Int → List UInt8) (c : Cl) : Lib.countByte (tok key c) 46 = 1 := by
  unfold Lib.countByte tok
  rw [List.count_append, List.count_cons_self, List.count_eq_zero.2 (fun h => enc_nodot _ _ h rfl), List.count_eq_zero.2 (fun h => enc_nodot _ _ h rfl)]
theorem bcount_any (l : List UInt8) (c : UInt8) (w0 : World) (h : PH) :
    PCalls Try.prog w0 37 [str l, u8 c] h fun v h' => v = .int .i64 (Lib.countByte l c : Nat) ∧ h' = h := by
  refine PCalls_value (.int .i64 (Lib.countByte l c : Nat)) (fun w => ?_) ⟨rfl, rfl⟩
  rw [@run_callFunc_extern Try.prog 37 _ Extern.BytealgCount.count Try.func37 (by kernel_rfl) (by kernel_rfl) (by kernel_rfl) (by kernel_rfl)]
  have := Lib.run_countString (P := Try.prog) ⟨l.toArray⟩ c.toNat w
  unfold str u8
  simp [this]
set_option maxRecDepth 20000 in
theorem count_one (l : List UInt8) (c : UInt8) (w0 : World) (h : PH) : PCalls Try.prog w0 19 [str l, str [c]] h fun v h' => v = .int .i64 (Lib.countByte l c : Nat) ∧ h' = h := by
  refine PCalls_body Try.func19 (by kernel_rfl) rfl _ Try.ntmps19 (by kernel_rfl) (by kernel_rfl) _ Try.results19 ?_
  have hI := Lib.hid (bcount_any l c w0 h)
  simp -dsimp -implicitDefEqProofs (disch := first | omega | assumption | (simp only [Option.isSome_some, Qt0]; done) | (simp only [UInt64.reduceToNat, UInt32.reduceToNat, UInt8.reduceToNat, List.length_cons, List.length_nil, List.length_append, Int.toNat_natCast] <;> omega)) only [Nat.reduceLT, Nat.reduceLeDiff, Nat.reduceEqDiff, ↓reduceIte, Int.reduceLT, Int.reduceLE, Int.reduceToNat, Int.reduceEq, Int.reduceNe, Nat.reduceAdd, UInt8.reduceOfNat, UInt16.reduceOfNat, UInt32.reduceOfNat, UInt64.reduceOfNat, UInt64.reduceToNat, UInt32.reduceToNat, UInt16.reduceToNat, UInt8.reduceToNat, Int.reduceAdd, Int.reduceSub, Int.reduceMul, Nat.reduceMul, Qp0, Ql0, Qe0]
  refine hI.out.mono ?_
  rintro v hq ⟨rfl, hz⟩
  obtain rfl := hz.symm
  simp -dsimp -implicitDefEqProofs (disch := first | omega | assumption | (simp only [Option.isSome_some, Qt0]; done) | (simp only [UInt64.reduceToNat, UInt32.reduceToNat, UInt8.reduceToNat, List.length_cons, List.length_nil, List.length_append, Int.toNat_natCast] <;> omega)) only [Nat.reduceLT, Nat.reduceLeDiff, Nat.reduceEqDiff, ↓reduceIte, Int.reduceLT, Int.reduceLE, Int.reduceToNat, Int.reduceEq, Int.reduceNe, Nat.reduceAdd, UInt8.reduceOfNat, UInt16.reduceOfNat, UInt32.reduceOfNat, UInt64.reduceOfNat, UInt64.reduceToNat, UInt32.reduceToNat, UInt16.reduceToNat, UInt8.reduceToNat, Int.reduceAdd, Int.reduceSub, Int.reduceMul, Nat.reduceMul, Qp0, Ql0, Qe0]
  exact ⟨_, PH.Le.refl _, by trivial, rfl⟩
/-- What Read tells, both ways at once. -/
theorem RDO_both {w0 : World} {h0 h' : PH} {al : Int → Prop} {key : Int → List UInt8} {s : List UInt8} {v : Value} (hr : RDO w0 h0 h' al key s v) : ∃ d A cap ev, v = .tuple #[.agg (clL d A cap).toArray, ev] ∧ d.x.length ≤ cap ∧ Rv w0 h' A (ints d.x) ∧ ((ev = .nilIface ∧ IsT al key s d) ∨ ((∀ c, ¬ IsT al key s c) ∧ ∃ be t x, ev = errV be ∧ h'.m be = some ⟨[str tokenT, .int .i64 s.length, bothV (codeV 9) (.iface t x)], 3⟩)) := by
  rcases hr with ⟨c, A, cap, hic, rfl, hcap, hrv, hfr⟩ | ⟨hno, be, t, x, rfl, hbe⟩
  · exact ⟨c, A, cap, _, rfl, hcap, hrv, .inl ⟨rfl, hic⟩⟩
  · exact ⟨clZ, none, 0, _, rfl, by simp [clZ], Rv.nil _ _ _, .inr ⟨hno, be, t, x, rfl, hbe⟩⟩
end Go.Proofs.Ytdlaoeepeakpeaa

