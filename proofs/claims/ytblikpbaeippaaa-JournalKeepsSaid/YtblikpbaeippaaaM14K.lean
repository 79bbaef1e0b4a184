/- Parts Jc2, Jc3, Base2, joined. No condition. -/
import Derived.Test.YtblikpbaeippaaaM13K
import Derived.Deep.MidRow
import Derived.Laws.ResultCell
namespace Go.Proofs.Ytblikpbaeippaaa
set_option linter.unusedVariables false
set_option linter.unusedSimpArgs false
open Go.RowKit Px Wr
def fuseD (d : Dk) (n : Int) : Dk := { d with fuse := if -1 > n then -1 else n }
theorem Clean.fuseD {d : Dk} {t : List UInt8} (c : Clean d t) {n : Int} (hn : n ≤ 30) : Clean (fuseD d n) t := by
  obtain ⟨⟨a1, a2, a3, a4, a5, a6⟩, b, t1, s⟩ := c
  refine ⟨⟨a1, a2, a3, a4, a5, ?_⟩, b, t1, s⟩
  show (if -1 > n then -1 else n) ≤ 9223372036854775807
  split <;> omega
theorem Stnd.fuseD {d : Dk} {g : Nat} {l : List (List UInt8)} {ps : List Pt} (p : Stnd d g l ps) {n : Int} (hn : n ≤ 30) : Stnd (fuseD d n) g l ps := ⟨p.clean.fuseD hn, p.gens⟩
theorem Low'.fuseD {d : Dk} {g : Nat} (p : Low' d g) {n : Int} (hn : n ≤ 30) : Low' (fuseD d n) g := by
  obtain ⟨s, c, o⟩ := p
  exact ⟨s, c.fuseD hn, o⟩
theorem jfuseA_any {h0 : PH} {j a b : Nat} {da db : Dk} {g : Nat} {o : Bool} (n : Int) (w0 : World) (h : PH) (hj : JS h0 h j a b da db g o) : PCalls Try.prog w0 11 [.pointer (some ⟨a, 0, none⟩), .int .i64 n] h fun v h' => JS h0 h' j a b (fuseD da n) db g o := by
  obtain ⟨h1, q1, q2, q3⟩ := hj.useA
  exact (fuse_any h1 a da w0 h q1 n).mono fun v h' r => q3 h' _ r
theorem jfuseB_any {h0 : PH} {j a b : Nat} {da db : Dk} {g : Nat} {o : Bool} (n : Int) (w0 : World) (h : PH) (hj : JS h0 h j a b da db g o) : PCalls Try.prog w0 11 [.pointer (some ⟨b, 0, none⟩), .int .i64 n] h fun v h' => JS h0 h' j a b da (fuseD db n) g o := by
  obtain ⟨h1, q1, q2, q3⟩ := hj.useB
  exact (fuse_any h1 b db w0 h q1 n).mono fun v h' r => q3 h' _ r
theorem zHz {h0 : PH} {j p q x : Nat} {dP dS : Dk} {g : Nat} {o : Bool} {hv : List (List UInt8)} {ps : List Pt} (hx : x = p ∨ x = q) (n : Int) (hn : n ≤ 30) (w0 : World) (h : PH) (hj : JS h0 h j p q dP dS g o) (hP : Stnd dP g hv ps) (hS : Low' dS g) :
    PCalls Try.prog w0 11 [.pointer (some ⟨x, 0, none⟩), .int .i64 n] h fun v h' => ∃ dP' dS', JS h0 h' j p q dP' dS' g o ∧ Stnd dP' g hv ps ∧ Low' dS' g := by
  rcases hx with rfl | rfl
  · exact (jfuseA_any n w0 h hj).mono fun v h' r => ⟨_, _, r, hP.fuseD hn, hS⟩
  · exact (jfuseB_any n w0 h hj).mono fun v h' r => ⟨_, _, r, hP, hS.fuseD hn⟩
theorem JS.grow2 {h0 h h' : PH} {j a b g : Nat} {da db : Dk} {o : Bool} (hj : JS h0 h j a b da db g o) (hl : PH.Le h h') : ∃ h1, JS h1 h' j a b da db g o ∧ PH.Le h0 h1 ∧ (∀ x k, h.top ≤ x → h'.m x = some k → h1.m x = some k) ∧ h1.top = h'.top := by
  obtain ⟨h1, z1, z2, z3, z4, z5⟩ := hj.d2.grow hl
  have hJ : h1.m j = some ⟨jL a b g o, 4⟩ := z2.m _ _ (by rw [PH.new_m, if_pos rfl])
  have hL := (JS.low_le h0 hj.low _).trans z2
  refine ⟨h1.del j, z1.js hJ, ⟨hL.top, fun x k e => ?_⟩, fun x k r1 r2 => ?_, z4⟩
  · rw [PH.del_m, if_neg (fun r => by subst r; rw [hj.low] at e; cases e)]
    exact hL.m x k e
  · have := h.lt _ _ hj.cell
    rw [PH.del_m, if_neg (by omega)]
    exact z5 x k r1 r2
theorem PW_once {P : Program} {w0 : World} {N : Nat} {C : Code} {Q : Exit → Fr → PH → Prop} {G : Prop} (St : Fr → PH → Prop) (main : (∀ f h, St f h → PW P w0 N C f h Q) → G) (key : ∀ f h, St f h → PW P w0 N C f h Q) : G := main key
end Go.Proofs.Ytblikpbaeippaaa


namespace Go.Proofs.Ytblikpbaeippaaa
set_option linter.unusedVariables false
set_option linter.unusedSimpArgs false
open Go.RowKit Px Wr
theorem vcC_cut2 {P : Program} {w0 : World} {N : Nat} {x1 x2 y : Code} {f : Fr} {h : PH} {Q : Exit → Fr → PH → Prop} (St : Fr → PH → Prop) (key : ∀ f h, St f h → vcC P w0 N y f h Q) (main : ∀ Y, (∀ f h, St f h → vcC P w0 N Y f h Q) → vcC P w0 N (.seq x1 (.seq x2 Y)) f h Q) : vcC P w0 N (.seq x1 (.seq x2 y)) f h Q := main y key
def Crs (dA dB : Dk) (T : List (List UInt8) → Prop) : Prop := ∀ k0 k1 m0 m1, ∃ g, (Top (dA.crash k0 m0) g T ∧ Low' (dB.crash k1 m1) g) ∨ (Top (dB.crash k1 m1) g T ∧ Low' (dA.crash k0 m0) g)
theorem bef_side {h1 h2 : PH} {a b p q g : Nat} {dP dS : Dk} {hv under : List (List UInt8)} {anew : Bool} (hs : (p = a ∧ q = b) ∨ (p = b ∧ q = a)) (hd : D2 h1 h2 p dP q dS) (gP : Good dP) (gS : Good dS) (B : Bef dP dS g hv under anew) :
    ∃ dA dB, D2 h1 h2 a dA b dB ∧ Good dA ∧ Good dB ∧ Crs dA dB (ToldK anew hv under) := by
  rcases hs with ⟨rfl, rfl⟩ | ⟨rfl, rfl⟩
  · exact ⟨dP, dS, hd, gP, gS, fun k0 k1 m0 m1 => (bef_crash B k0 k1 m0 m1).elim (fun h => ⟨_, .inl h⟩) (fun h => ⟨_, .inr h⟩)⟩
  · exact ⟨dS, dP, hd.symm, gS, gP, fun k0 k1 m0 m1 => (bef_crash B k1 k0 m1 m0).elim (fun h => ⟨_, .inr h⟩) (fun h => ⟨_, .inl h⟩)⟩
theorem Top.good {d : Dk} {g : Nat} {T : List (List UInt8) → Prop} (t : Top d g T) : Good d := by
  obtain ⟨_, _, c, _⟩ := t
  exact c.good
theorem Low'.good {d : Dk} {g : Nat} (t : Low' d g) : Good d := by
  obtain ⟨_, c, _⟩ := t
  exact c.good
theorem tops_good {dA dB : Dk} {g : Nat} {T : List (List UInt8) → Prop} (hc : (Top dA g T ∧ Low' dB g) ∨ (Top dB g T ∧ Low' dA g)) : Good dA ∧ Good dB := hc.elim (fun h => ⟨h.1.good, h.2.good⟩) (fun h => ⟨h.2.good, h.1.good⟩)
theorem open_told {h0 h h' : PH} {a b g : Nat} {v : Value} {dA dB : Dk} {T : List (List UInt8) → Prop} (ho : OpenP h0 h h' a b v dA dB) (hc : (Top dA g T ∧ Low' dB g) ∨ (Top dB g T ∧ Low' dA g)) :
    ∃ (jj p q : Nat) (dP dS : Dk) (l : List (List UInt8)) (ps : List Pt) (h1 : PH) (V : Value), v = .tuple #[.pointer (some ⟨jj, 0, none⟩), V, .nilIface] ∧ PH.Le h0 h1 ∧ ((p = a ∧ q = b) ∨ (p = b ∧ q = a)) ∧ JS h1 h' jj p q dP dS g false ∧ Stnd dP g l ps ∧ Low' dS g ∧ Own h1 1 V l.length (l.map str) ∧ T l := by
  obtain ⟨dA', dB', e, sw, g', l', hop, hov⟩ := ho
  rcases hc with ⟨ht, hl⟩ | ⟨ht, hl⟩
  · obtain ⟨rfl, rfl, rfl, hT, ⟨qs, hq⟩, hl'⟩ := open_leftG ht hl hop
    obtain ⟨j, V, h1, rfl, hle, hj, hV, _⟩ := hov
    rw [if_neg (by decide)] at hj
    exact ⟨j, a, b, dA', dB', l', qs, h1, V, rfl, hle, .inl ⟨rfl, rfl⟩, hj, hq, hl', hV, hT⟩
  · obtain ⟨rfl, rfl, rfl, hT, ⟨qs, hq⟩, hl'⟩ := open_rightG ht hl hop
    obtain ⟨j, V, h1, rfl, hle, hj, hV, _⟩ := hov
    rw [if_pos rfl] at hj
    exact ⟨j, b, a, dB', dA', l', qs, h1, V, rfl, hle, .inr ⟨rfl, rfl⟩, hj, hq, hl', hV, hT⟩
theorem ToldK.cut {hv under l : List (List UInt8)} (h : ToldK false hv under l) : ∃ n, l = hv ++ under.take n := by
  unfold ToldK at h
  rwa [if_neg (by decide)] at h
theorem ToldK.one {hv under l : List (List UInt8)} (h : ToldK true hv under l) : l = hv ∨ l = under := by
  unfold ToldK at h
  rwa [if_pos rfl] at h
theorem ToldK.len {anew : Bool} {hv under l : List (List UInt8)} (h : ToldK anew hv under l) : l.length ≤ hv.length + under.length := by
  cases anew with
  | false => obtain ⟨n, rfl⟩ := h.cut; simp; omega
  | true => rcases h.one with rfl | rfl <;> omega
def EndK (w : World) (A : Option Addr) (cA nA : Nat) (B : Option Addr) (cB nB a b i : Nat) (f : Fr) (h2 : PH) : Prop :=
  ∃ (k : Nat) (dA dB : Dk) (hv under : List (List UInt8)) (anew : Bool) (U : Option Addr) (cu : Nat) (h1 : PH) (V : Value),
    Low w h2 ∧ w.heap.size ≤ h2.top ∧ k ≤ nA ∧ D2 h1 h2 a dA b dB ∧ Good dA ∧ Good dB ∧ Crs dA dB (ToldK anew hv under) ∧ Own h1 1 V hv.length (hv.map str) ∧ hv.length + under.length ≤ k * 450 ∧ under.length ≤ cu ∧ (∀ h, Rv w h U (under.map str)) ∧
    f 0 = some (.slice A nA cA) ∧ f 1 = some (.slice B nB cB) ∧ f 6 = some (.pointer (some ⟨a, 0, none⟩)) ∧ f 7 = some (.pointer (some ⟨b, 0, none⟩)) ∧ f 11 = some V ∧ f 12 = some (.int .i64 k) ∧ f 13 = some (.int .i64 i) ∧ f 14 = some (.slice U under.length cu) ∧ f 15 = some (.bool anew)
def MidK (w : World) (A : Option Addr) (cA nA : Nat) (B : Option Addr) (cB nB a b i : Nat) (f : Fr) (h2 : PH) : Prop :=
  ∃ (k : Nat) (dA dB : Dk) (hv under : List (List UInt8)) (anew : Bool) (U : Option Addr) (cu : Nat) (h1 : PH) (V : Value) (xb : Nat) (c : Cj),
    w.heap.size ≤ h1.top ∧ k ≤ nA ∧ D2 h1 h2 a dA b dB ∧ Good dA ∧ Good dB ∧ Crs dA dB (ToldK anew hv under) ∧ Own h1 1 V hv.length (hv.map str) ∧ hv.length + under.length ≤ k * 450 ∧ under.length ≤ cu ∧ (∀ h, Rv w h U (under.map str)) ∧
    h1.m xb = some ⟨cjL c, 6⟩ ∧ c.M0.length ≤ 5000 ∧ c.M1.length ≤ 5000 ∧ f 19 = some (.pointer (some ⟨xb, 0, none⟩)) ∧
    f 0 = some (.slice A nA cA) ∧ f 1 = some (.slice B nB cB) ∧ f 6 = some (.pointer (some ⟨a, 0, none⟩)) ∧ f 7 = some (.pointer (some ⟨b, 0, none⟩)) ∧ f 11 = some V ∧ f 12 = some (.int .i64 k) ∧ f 13 = some (.int .i64 i) ∧ f 14 = some (.slice U under.length cu) ∧ f 15 = some (.bool anew)
end Go.Proofs.Ytblikpbaeippaaa


namespace Go.Proofs.Ytblikpbaeippaaa.Base
set_option linter.unusedVariables false
set_option linter.unusedSimpArgs false
open Go.ChangeShapes Go.WideShapes Go.ChangeAt Go.RowKit Go.Deep

theorem Blk.setCells {b : Nat} {t : TypeId} (vs : List Value) : ∀ (o : Nat) {cs : List Value} {w : World}, Blk w b t cs.toArray → o + vs.length ≤ cs.length → Blk (w.setCells b o vs) b t (cs.take o ++ vs ++ cs.drop (o + vs.length)).toArray := by
  induction vs with
  | nil => intro o cs w h _; simpa [World.setCells] using h
  | cons v vs ih =>
    intro o cs w h hl
    have h1 := h.set_ o v
    rw [List.setIfInBounds_toArray] at h1
    have h2 := ih (o + 1) h1 (by simp at hl ⊢; omega)
    have e : (cs.set o v).take (o + 1) ++ vs ++ (cs.set o v).drop (o + 1 + vs.length) = cs.take o ++ (v :: vs) ++ cs.drop (o + (v :: vs).length) := by
      have ho : o < cs.length := by simp at hl; omega
      rw [List.drop_set_of_lt (by omega), List.take_add_one, List.getElem?_set_self (by omega), List.take_set_of_le (by omega)]
      simp [Nat.add_assoc, Nat.add_comm 1]
    rw [e] at h2
    exact h2
theorem Only.setCells {p : Nat} (vs : List Value) : ∀ (o : Nat) {w w' : World}, Only p w w' → Only p w (w'.setCells p o vs) := by
  induction vs with
  | nil => intro o w w' h; simpa [World.setCells] using h
  | cons v vs ih => intro o w w' h; exact ih (o + 1) (h.trans (Only.setCell w' p o v))

end Go.Proofs.Ytblikpbaeippaaa.Base

