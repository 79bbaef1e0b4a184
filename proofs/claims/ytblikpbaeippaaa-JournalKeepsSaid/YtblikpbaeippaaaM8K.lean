/- Parts Jr4, Pt, Pu, FrI, Jk1, Up, joined. No condition. -/
import Derived.Test.YtblikpbaeippaaaM6K
import Derived.Test.YtblikpbaeippaaaM7K
import Derived.Test.YtblikpbaeippaaaM3K
import Derived.Lib.Bytealg
import Derived.Test.YtblikpbaeippaaaM5K
import Derived.Test.YtblikpbaeippaaaM4K
namespace Go.Proofs.Ytblikpbaeippaaa
set_option linter.unusedVariables false
set_option linter.unusedSimpArgs false
open Go.RowKit Px Wr
def Dk.safeV (d : Dk) : Int := if d.down = true then 0 else d.safe
def andK (r : Dk × Option (Int × Int)) (k : Dk → Dk × Option Int) : Dk × Option Int := match r.2 with
  | some e => (r.1, some e.1)
  | none => k r.1
def endK (r : Dk × Option (Int × Int)) : Dk × Option Int := (r.1, r.2.map (·.1))
def markM (d : Dk) (g : Nat) : Dk × Option Int := andK d.sync fun d1 => andK (d1.append (sealP ⟨4, g, d1.safeV.toNat, []⟩)) fun d2 => endK d2.sync
def fullK (r : Dk × Option Int) (cut : Int) : Dk × Option Int := if r.2 = some 4 then andK (r.1.cut cut) fun d => (d, some 4) else r
def writeM (d : Dk) (g : Nat) (cut : Int) (text : List UInt8) : Dk × Option Int := fullK (andK (d.append text) fun d1 => markM d1 g) cut
structure Clean (d : Dk) (l : List UInt8) : Prop where
  good : Good d
  up : d.down = false
  txt : d.l = l
  safe : d.safe = (l.length : Nat)
structure Torn (d : Dk) (l : List UInt8) (ext : List Pt) : Prop where
  good : Good d
  parts : ∃ j k, j ≤ k ∧ k ≤ ext.length ∧ d.l = l ++ flatP (ext.take k) ∧ d.safe = ((l ++ flatP (ext.take j)).length : Nat) ∧ ∀ x ∈ (ext.take k).drop j, x.p ≤ (l ++ flatP (ext.take j)).length
structure Opd (d : Dk) (o : Dk) : Prop where
  l : o.l = d.l
  safe : o.safe = d.safe
  room : o.room = d.room
  good : Good o
  fuse : d.fuse < 0 → o.fuse < 0
theorem op_cases {d : Dk} (hd : d.down = false) (g : Good d) : Opd d d.op.1 ∧ ((d.op.2 = true ∧ d.op.1.down = false) ∨ (d.op.2 = false ∧ d.op.1.down = true ∧ 0 ≤ d.fuse)) := by
  refine ⟨⟨d.op_l.1, d.op_l.2.1, d.op_l.2.2, g.op, fun h => ?_⟩, ?_⟩
  · unfold Dk.op
    rw [if_neg (by rw [hd]; decide), if_pos h]
    exact h
  · unfold Dk.op
    rw [if_neg (by rw [hd]; decide)]
    split
    · exact .inl ⟨rfl, hd⟩
    · split
      · exact .inl ⟨rfl, hd⟩
      · exact .inr ⟨rfl, rfl, by omega⟩
theorem zFf {d : Dk} (hd : d.down = false) (g : Good d) (s : List UInt8) : Good (d.append s).1 ∧ (d.fuse < 0 → (d.append s).1.fuse < 0) ∧
    ((∃ a, (d.append s).2 = some (4, a) ∧ (d.append s).1 = d ∧ d.room - d.l.length < s.length) ∨
    ((d.append s).2 = none ∧ (d.append s).1.down = false ∧ (d.append s).1.l = d.l ++ s ∧ (d.append s).1.safe = d.safe ∧ (d.append s).1.room = d.room ∧ ¬ d.room - d.l.length < s.length) ∨
    (∃ a, (d.append s).2 = some (5, a) ∧ (d.append s).1.down = true ∧ (d.append s).1.l = d.l ∧ (d.append s).1.safe = d.safe ∧ 0 ≤ d.fuse)) := by
  obtain ⟨ho, hc⟩ := op_cases hd g
  refine ⟨g.append s, fun hf => ?_, ?_⟩
  · unfold Dk.append
    split
    · exact hf
    · split
      · exact ho.fuse hf
      · exact ho.fuse hf
  · unfold Dk.append
    by_cases h : d.down = false ∧ d.room - d.l.length < (s.length : Int)
    · rw [if_pos h]; exact .inl ⟨_, rfl, rfl, h.2⟩
    · rw [if_neg h]
      rcases hc with ⟨h1, h2⟩ | ⟨h1, h2, h3⟩
      · rw [if_pos h1]; exact .inr (.inl ⟨rfl, h2, rfl, ho.safe, ho.room, fun q => h ⟨hd, q⟩⟩)
      · rw [if_neg (by rw [h1]; decide)]; exact .inr (.inr ⟨_, rfl, h2, ho.l, ho.safe, h3⟩)
theorem up_sync {d : Dk} (hd : d.down = false) (g : Good d) : Good d.sync.1 ∧ (d.fuse < 0 → d.sync.1.fuse < 0) ∧
    ((d.sync.2 = none ∧ d.sync.1.down = false ∧ d.sync.1.l = d.l ∧ d.sync.1.safe = d.l.length ∧ d.sync.1.room = d.room) ∨
    (∃ a, d.sync.2 = some (5, a) ∧ d.sync.1.down = true ∧ d.sync.1.l = d.l ∧ d.sync.1.safe = d.safe ∧ 0 ≤ d.fuse)) := by
  obtain ⟨ho, hc⟩ := op_cases hd g
  refine ⟨g.sync, fun hf => ?_, ?_⟩
  · unfold Dk.sync
    split
    · exact ho.fuse hf
    · exact ho.fuse hf
  · unfold Dk.sync
    rcases hc with ⟨h1, h2⟩ | ⟨h1, h2, h3⟩
    · rw [if_pos h1]; exact .inl ⟨rfl, h2, ho.l, rfl, ho.room⟩
    · rw [if_neg (by rw [h1]; decide)]; exact .inr ⟨_, rfl, h2, ho.l, ho.safe, h3⟩
theorem up_cut {d : Dk} (hd : d.down = false) (g : Good d) (n : Nat) (hn : n ≤ d.l.length) : Good (d.cut n).1 ∧ (d.fuse < 0 → (d.cut n).1.fuse < 0) ∧
    (((d.cut n).2 = none ∧ (d.cut n).1.down = false ∧ (d.cut n).1.l = d.l.take n ∧ (d.cut n).1.safe = (if (n : Int) < d.safe then (n : Int) else d.safe) ∧ (d.cut n).1.room = d.room) ∨
    (∃ a, (d.cut n).2 = some (5, a) ∧ (d.cut n).1.down = true ∧ (d.cut n).1.l = d.l ∧ (d.cut n).1.safe = d.safe ∧ 0 ≤ d.fuse)) := by
  obtain ⟨ho, hc⟩ := op_cases hd g
  have hno : ¬ (d.down = false ∧ ((n : Int) < 0 ∨ (d.l.length : Int) < (n : Int))) := fun q => by rcases q.2 with q | q <;> omega
  refine ⟨g.cut n, fun hf => ?_, ?_⟩
  · unfold Dk.cut
    rw [if_neg hno]
    split
    · exact ho.fuse hf
    · exact ho.fuse hf
  · unfold Dk.cut
    rw [if_neg hno]
    rcases hc with ⟨h1, h2⟩ | ⟨h1, h2, h3⟩
    · rw [if_pos h1]; exact .inl ⟨rfl, h2, by simp, rfl, ho.room⟩
    · rw [if_neg (by rw [h1]; decide)]; exact .inr ⟨_, rfl, h2, ho.l, ho.safe, h3⟩
theorem zDv (qs : List Pt) (m : Pt) : (qs ++ [m]).take qs.length = qs := List.take_left
theorem zDx (qs : List Pt) (m : Pt) : (qs ++ [m]).take (qs.length + 1) = qs ++ [m] := List.take_of_length_le (by simp)
structure WOut (d d' : Dk) (e : Option Int) (l : List UInt8) (ext : List Pt) : Prop where
  room : d'.room = d.room ∨ d'.down = true
  fuse : d.fuse < 0 → d'.fuse < 0 ∧ e ≠ some 5
  out : (e = none ∧ Clean d' (l ++ flatP ext)) ∨ (e = some 4 ∧ Clean d' l) ∨ (e = some 5 ∧ d'.down = true ∧ Torn d' l ext)
theorem zDk {d' : Dk} {l : List UInt8} {ext : List Pt} (g : Good d') (j k : Nat) (hjk : j ≤ k) (hk : k ≤ ext.length) (hl : d'.l = l ++ flatP (ext.take k)) (hs : d'.safe = ((l ++ flatP (ext.take j)).length : Nat)) (hp : ∀ x ∈ (ext.take k).drop j, x.p ≤ (l ++ flatP (ext.take j)).length) : Torn d' l ext := ⟨g, j, k, hjk, hk, hl, hs, hp⟩
theorem full_out {d1 d' : Dk} {e : Option Int} {l : List UInt8} {ext : List Pt} (k : Nat) (hk : k ≤ ext.length) (hg : Good d1) (hu : d1.down = false) (hl : d1.l = l ++ flatP (ext.take k)) (hs : d1.safe = (d1.l.length : Nat)) (he : (d', e) = fullK (d1, some 4) (l.length : Nat)) : WOut d1 d' e l ext := by
  obtain ⟨cg, cf, hc⟩ := up_cut hu hg l.length (by rw [hl, List.length_append]; omega)
  unfold fullK andK at he
  simp only [if_true] at he
  rcases hc with ⟨h1, h2, h3, h4, h5⟩ | ⟨a, h1, h2, h3, h4, h5⟩
  · rw [h1] at he
    injection he with he1 he2
    subst he1; subst he2
    refine ⟨.inl h5, fun hfu => ⟨cf hfu, by simp⟩, .inr (.inl ⟨rfl, cg, h2, by rw [h3, hl, List.take_left], ?_⟩)⟩
    have hlen : d1.l.length = l.length + (flatP (ext.take k)).length := by rw [hl, List.length_append]
    rw [h4, hs, hlen]
    split <;> omega
  · rw [h1] at he
    injection he with he1 he2
    subst he1; subst he2
    refine ⟨.inr h2, fun hfu => by omega, .inr (.inr ⟨rfl, h2, zDk cg k k (Nat.le_refl _) hk (by rw [h3, hl]) (by rw [h4, hs, hl]) ?_⟩)⟩
    intro x hx
    rw [List.drop_eq_nil_of_le (by rw [List.length_take]; omega)] at hx
    cases hx
theorem zDu {d : Dk} {e : Option Int} (n : Int) (h : e ≠ some 4) : fullK (d, e) n = (d, e) := by unfold fullK; rw [if_neg h]
theorem zCp {d : Dk} (h : d.down = false) : d.safeV = d.safe := by unfold Dk.safeV; rw [if_neg (by rw [h]; decide)]
theorem zFa {d : Dk} {l : List UInt8} (hc : Clean d l) (g : Nat) (qs : List Pt) (hp : ∀ x ∈ qs, x.p ≤ l.length) :
    WOut d (writeM d g (l.length : Nat) (flatP qs)).1 (writeM d g (l.length : Nat) (flatP qs)).2 l (qs ++ [⟨4, g, (l ++ flatP qs).length, []⟩]) := by
  generalize hm : (⟨4, g, (l ++ flatP qs).length, []⟩ : Pt) = m
  have hl := hc.txt
  have hs := hc.safe
  have hel : (qs ++ [m]).length = qs.length + 1 := by simp
  obtain ⟨ag, af, ha⟩ := zFf hc.up hc.good (flatP qs)
  unfold writeM
  rcases ha with ⟨a, h1, h2, _⟩ | ⟨h1, h2, h3, h4, h5, _⟩ | ⟨a, h1, h2, h3, h4, h5⟩
  · -- no room for the text
    have hw : andK (d.append (flatP qs)) (fun d1 => markM d1 g) = (d, some 4) := by unfold andK; rw [h1, h2]
    rw [hw]
    exact full_out (ext := qs ++ [m]) 0 (by omega) hc.good hc.up (by simpa [flatP] using hl) (by rw [hs, hl]) rfl
  · generalize hd1 : (d.append (flatP qs)).1 = d1 at *
    rw [hl] at h3
    obtain ⟨sg, sf, hsy⟩ := up_sync h2 ag
    rcases hsy with ⟨s1, s2, s3, s4, s5⟩ | ⟨a, s1, s2, s3, s4, s5⟩
    · generalize hd2 : d1.sync.1 = d2 at *
      have hsv : d2.safeV.toNat = (l ++ flatP qs).length := by rw [zCp s2, s4, h3, Int.toNat_natCast]
      obtain ⟨bg, bf, hb⟩ := zFf s2 sg (sealP m)
      have hw : andK (d.append (flatP qs)) (fun d1 => markM d1 g) = andK (d2.append (sealP m)) fun d => endK d.sync := by
        show andK (d.append (flatP qs)) (fun d1 => markM d1 g) = _
        conv => lhs; unfold andK
        rw [h1, hd1]
        show markM d1 g = _
        have e1 : markM d1 g = andK (d2.append (sealP ⟨4, g, d2.safeV.toNat, []⟩)) fun d => endK d.sync := by
          show andK d1.sync (fun d1 => andK (d1.append (sealP ⟨4, g, d1.safeV.toNat, []⟩)) fun d2 => endK d2.sync) = _
          conv => lhs; unfold andK
          rw [s1, hd2]
          rfl
        rw [e1, hsv, hm]
      rw [hw]
      have hsl : d2.safe = (d2.l.length : Nat) := by rw [s4, s3]
      have hl2 : d2.l = l ++ flatP ((qs ++ [m]).take qs.length) := by rw [s3, h3, zDv]
      rcases hb with ⟨a, b1, b2, _⟩ | ⟨b1, b2, b3, b4, b5, _⟩ | ⟨a, b1, b2, b3, b4, b5⟩
      · have hw2 : andK (d2.append (sealP m)) (fun d => endK d.sync) = (d2, some 4) := by unfold andK; rw [b1, b2]
        rw [hw2]
        have hfo := full_out (ext := qs ++ [m]) (d' := (fullK (d2, some 4) (l.length : Nat)).1) (e := (fullK (d2, some 4) (l.length : Nat)).2) qs.length (by omega) sg s2 hl2 hsl rfl
        exact ⟨hfo.room.imp (fun q => q.trans (s5.trans h5)) id, fun hf => hfo.fuse (sf (af hf)), hfo.out⟩
      · generalize hd3 : (d2.append (sealP m)).1 = d3 at *
        obtain ⟨tg, tf, ht⟩ := up_sync b2 bg
        have hl3 : d3.l = l ++ flatP ((qs ++ [m]).take (qs.length + 1)) := by
          rw [b3, s3, h3, zDx, zBq]
          simp [flatP]
        have hw2 : andK (d2.append (sealP m)) (fun d => endK d.sync) = endK d3.sync := by unfold andK; rw [b1, hd3]
        rw [hw2]
        rcases ht with ⟨t1, t2, t3, t4, t5⟩ | ⟨a, t1, t2, t3, t4, t5⟩
        · have he : endK d3.sync = (d3.sync.1, none) := by unfold endK; rw [t1]; rfl
          rw [he, zDu _ (by simp)]
          refine ⟨.inl (by rw [t5, b5, s5, h5]), fun hf => ⟨tf (bf (sf (af hf))), by simp⟩, .inl ⟨rfl, tg, t2, by rw [t3, hl3, zDx], ?_⟩⟩
          rw [t4, hl3, zDx]
        · have he : endK d3.sync = (d3.sync.1, some 5) := by unfold endK; rw [t1]; rfl
          rw [he, zDu _ (by simp)]
          refine ⟨.inr t2, fun hf => by have := bf (sf (af hf)); omega, .inr (.inr ⟨rfl, t2, zDk tg qs.length (qs.length + 1) (by omega) (by omega) (by rw [t3, hl3]) (by rw [t4, b4, hsl, hl2]) ?_⟩)⟩
          intro x hx
          rw [zDx, List.drop_left] at hx
          obtain rfl := List.mem_singleton.1 hx
          rw [zDv, ← hm]
          exact Nat.le_refl _
      · have hw2 : andK (d2.append (sealP m)) (fun d => endK d.sync) = ((d2.append (sealP m)).1, some 5) := by unfold andK; rw [b1]
        rw [hw2, zDu _ (by simp)]
        refine ⟨.inr b2, fun hf => by have := sf (af hf); omega, .inr (.inr ⟨rfl, b2, zDk bg qs.length qs.length (Nat.le_refl _) (by omega) (by rw [b3, hl2]) (by rw [b4, hsl, hl2]) ?_⟩)⟩
        intro x hx
        rw [zDv, List.drop_length] at hx
        cases hx
    · have hw : andK (d.append (flatP qs)) (fun d1 => markM d1 g) = (d1.sync.1, some 5) := by
        conv => lhs; unfold andK
        rw [h1, hd1]
        show markM d1 g = _
        unfold markM andK
        rw [s1]
      rw [hw, zDu _ (by simp)]
      refine ⟨.inr s2, fun hf => by have := af hf; omega, .inr (.inr ⟨rfl, s2, zDk sg 0 qs.length (by omega) (by omega) (by rw [s3, h3, zDv]) ?_ ?_⟩)⟩
      · rw [s4, h4, hs]; simp [flatP]
      · intro x hx
        rw [zDv, List.drop_zero] at hx
        have := hp x hx
        simp [flatP]
        exact this
  · have hw : andK (d.append (flatP qs)) (fun d1 => markM d1 g) = ((d.append (flatP qs)).1, some 5) := by unfold andK; rw [h1]
    rw [hw, zDu _ (by simp)]
    refine ⟨.inr h2, fun hf => by omega, .inr (.inr ⟨rfl, h2, zDk ag 0 0 (Nat.le_refl _) (by omega) (by rw [h3, hl]; simp [flatP]) (by rw [h4, hs]; simp [flatP]) ?_⟩)⟩
    intro x hx
    simp at hx
theorem zFu {d : Dk} {l : List UInt8} (g : Good d) (hl : d.l = l) (hs : d.safe = (l.length : Nat)) (k : Int) (mask : List UInt8) : Clean (d.crash k mask) l := by
  obtain ⟨n, hn, hnl, _⟩ := kept_eq d (X := l) (Y := []) (by rw [hl, List.append_nil]) hs k
  have h0 : n = 0 := by simpa using hnl
  subst h0
  refine ⟨g.crash k mask, rfl, ?_, ?_⟩
  · unfold Dk.crash
    simp only [hn, hs, hl]
    show ((zl mask _ l 0).take _) = l
    simp [zl]
  · show d.safe + d.kept k = _
    rw [hn, hs]; simp
theorem loss_dam (mask Y : List UInt8) (n : Nat) (hn : n ≤ Y.length) : Dam (lossL mask Y n) Y := by
  induction n with
  | zero => exact ⟨by simp [lossL], fun j a h => by simp [lossL] at h⟩
  | succ n ih =>
    have ih := ih (by omega)
    refine ⟨by rw [zDb]; omega, fun j a h => ?_⟩
    rw [lossL] at h
    by_cases hj : j < (lossL mask Y n).length
    · rw [List.getElem?_append_left hj] at h
      exact ih.at_ j a h
    · rw [List.getElem?_append_right (by omega)] at h
      rw [zDb] at h hj
      have : j - n = 0 := by
        rcases Nat.eq_zero_or_pos (j - n) with q | q
        · exact q
        · rw [List.getElem?_eq_none (by simp; omega)] at h; cases h
      rw [this] at h
      simp only [List.getElem?_cons_zero, Option.some.injEq] at h
      have hjn : j = n := by omega
      subst hjn
      split at h
      · exact .inl h.symm
      · right
        rw [← h, List.getD, List.getElem?_eq_getElem (by omega)]
        rfl
theorem zIf {d : Dk} {l : List UInt8} {ps ext : List Pt} (hps : l = flatP ps) (hok : AllOk ps) (hx : AllOk ext) (t : Torn d l ext) (k : Int) (mask : List UInt8) :
    ∃ i s, i ≤ ext.length ∧ Clean (d.crash k mask) s ∧ (d.crash k mask).fuse = -1 ∧ (d.crash k mask).room = d.room ∧ Scan s (ps ++ ext.take i) ∧ ¬ Corrupt s (flatP (ps ++ ext.take i)).length := by
  obtain ⟨g, a, b, hab, hb, hl, hs, hp⟩ := t
  have hsplit : ext.take b = ext.take a ++ (ext.take b).drop a := by
    have := List.take_append_drop a (ext.take b)
    rw [List.take_take, Nat.min_eq_left hab] at this
    exact this.symm
  have hl' : d.l = (l ++ flatP (ext.take a)) ++ flatP ((ext.take b).drop a) := by rw [hl, hsplit, zBq, List.append_assoc]; congr 3; rw [← hsplit]
  obtain ⟨n, hn, hnl, _⟩ := kept_eq d hl' hs k
  have hcr : (d.crash k mask).l = (l ++ flatP (ext.take a)) ++ lossL mask (flatP ((ext.take b).drop a)) n := by
    unfold Dk.crash
    simp only [hn, hs, Int.toNat_natCast, hl']
    rw [zl_loss mask _ _ n hnl, show (((l ++ flatP (ext.take a)).length : Int) + (n : Int)).toNat = ((l ++ flatP (ext.take a)) ++ lossL mask (flatP ((ext.take b).drop a)) n).length by have := zDb mask (flatP ((ext.take b).drop a)) n; simp only [List.length_append] at *; omega]
    exact List.take_left
  have hbase : l ++ flatP (ext.take a) = flatP (ps ++ ext.take a) := by rw [hps, zBq]
  obtain ⟨i, hi, hsc, hco⟩ := crash_scan (ps := ps ++ ext.take a) (qs := (ext.take b).drop a) (hok.app (hx.take a)) ((hx.take b).drop a) (loss_dam mask (flatP ((ext.take b).drop a)) n hnl)
  have hidx : (ps ++ ext.take a) ++ ((ext.take b).drop a).take i = ps ++ ext.take (a + i) := by
    rw [List.append_assoc]
    congr 1
    rw [List.length_drop, List.length_take] at hi
    rw [List.take_drop, List.take_take, Nat.min_eq_left (by omega)]
    have := List.take_append_drop a (ext.take (a + i))
    rw [List.take_take, Nat.min_eq_left (by omega)] at this
    exact this
  rw [hidx] at hsc hco
  rw [List.length_drop, List.length_take] at hi
  have hco' := hco fun x hx => by
    have := hp x hx
    rw [hbase] at this
    exact this
  refine ⟨a + i, _, by omega, ⟨g.crash k mask, rfl, hcr, ?_⟩, rfl, rfl, by rw [hbase]; exact hsc, by rw [hbase]; exact hco'⟩
  show d.safe + d.kept k = _
  rw [hn, hs]
  have := zDb mask (flatP ((ext.take b).drop a)) n
  simp only [List.length_append] at *
  omega
end Go.Proofs.Ytblikpbaeippaaa


namespace Go.Proofs.Ytblikpbaeippaaa.Px
set_option linter.unusedVariables false
set_option linter.unusedSimpArgs false
open Go.RowKit
inductive Pl where
  | done
  | take (i : Nat) (p : Pl)
  | both (i : Nat) (p : Pl) (j : Nat) (q : Pl)
  | only (i : Nat) (p : Pl)
section
variable {P : Program} {w0 : World} {h : PH} {N : Nat} {K : Fr → PH → Prop}
def Pl.len : Pl → Nat
  | .done => 0
  | .take _ p => p.len + 1
  | .both _ p _ q => max p.len q.len + 1
  | .only _ p => p.len + 1
theorem zCo {c : Code} {f : Fr} {Q Q' : Exit → Fr → PH → Prop} (hc : PW P w0 N c f h Q) (hi : ∀ e f h, Q e f h → Q' e f h) : PW P w0 N c f h Q' := fun a w fs s => wp_mono (hc a w fs s) fun e a' w' ⟨f', h', q, r, t⟩ => ⟨f', h', hi e f' h' q, r, t⟩
end
end Go.Proofs.Ytblikpbaeippaaa.Px


namespace Go.Proofs.Ytblikpbaeippaaa.Px
set_option linter.unusedVariables false
set_option linter.unusedSimpArgs false
open Go.RowKit
section
variable {P : Program} {ops : Array Oper} {Q : Exit → Act → World → Prop} {S : World → Prop}
def precB (ops : Array Oper) (i k : Nat) : Bool := match ops[k]? with
  | some o => o.after.any fun e => Region.binds .any e && e.on == i
  | none => false
def reachB (ops : Array Oper) : Nat → Nat → Nat → Bool
  | 0, _, _ => false
  | n + 1, i, k => precB ops i k || match ops[k]? with
    | some o => o.after.any fun e => Region.binds .any e && reachB ops n i e.on
    | none => false
def pureB (P : Program) (o : Op) : Bool := match o with
  | .load .. => false
  | .lookup .. => false
  | .call { callee := .builtin .len, .. } => false
  | .convert s d _ => !isSliceB P d && !isSliceB P s
  | o => silentB P o
def sinkB (P : Program) (ops : Array Oper) (j : Nat) : Bool := (List.range ops.size).all fun i => i == j || (match ops[i]? with
  | some o => !silentB P o.op || pureB P o.op
  | none => true) || reachB ops ops.size i j
def Closed (ops : Array Oper) (listed : Array Bool) : Prop := ∀ k, listed.getD k false = true → ∀ o, ops[k]? = some o → ∀ e ∈ o.after, Region.binds .any e = true → listed.getD e.on false = true
theorem zG4 {listed : Array Bool} (hc : Closed ops listed) : ∀ (n i k : Nat), (∀ o, ops[k]? = some o → ∀ e ∈ o.after, Region.binds .any e = true → listed.getD e.on false = true) → reachB ops n i k = true → listed.getD i false = true
  | 0, i, k, _, h => by simp [reachB] at h
  | n + 1, i, k, hp, h => by
    rw [reachB, Bool.or_eq_true] at h
    rcases h with h | h
    · unfold precB at h
      split at h
      · rename_i o ho
        simp only [Array.any_eq_true', Bool.and_eq_true, beq_iff_eq] at h
        obtain ⟨e, he, hb, rfl⟩ := h
        exact hp o ho e he hb
      · cases h
    · split at h
      · rename_i o ho
        simp only [Array.any_eq_true', Bool.and_eq_true] at h
        obtain ⟨e, he, hb, hr⟩ := h
        exact zG4 hc n i e.on (hc e.on (hp o ho e he hb)) hr
      · cases h
theorem zFr {listed : Array Bool} {i : Nat} (h : listed.getD i true = false) : listed.getD i false = false := by
  rcases Nat.lt_or_ge i listed.size with h' | h'
  · simp [h'] at h ⊢; exact h
  · simp [Array.getElem?_eq_none h'] at h
theorem Closed.set {listed : Array Bool} (hc : Closed ops listed) {i : Nat} (hi : i ∈ Region.ready .any ops listed) : Closed ops (listed.setIfInBounds i true) := by
  intro k hk o ho e he hb
  refine getD_set_true ?_
  by_cases hki : i = k
  · subst hki
    obtain ⟨_, o', ho', hall⟩ := mem_ready.1 hi
    rw [ho] at ho'
    obtain rfl := Option.some.inj ho'
    exact hall e he hb
  · exact hc k (by rw [getD_set_ne false hki] at hk; exact hk) o ho e he hb
def wpAnyM (P : Program) (ops : Array Oper) (Q : Exit → Act → World → Prop) (S : World → Prop) : Nat → Array Bool → Act → World → Prop
  | 0, listed, a, w => Region.ready .any ops listed = [] ∧ Q .normal a w
  | n + 1, listed, a, w => (Region.ready .any ops listed = [] → Q .normal a w) ∧ ∀ i ∈ Region.ready .any ops listed,
      wpOp P ops Q i (fun a' w' => S w' ∧ wpAnyM P ops Q S n (listed.setIfInBounds i true) a' w') a w ∨
      (sinkB P ops i = true ∧ wpOp P ops Q i (wpAny P .any ops Q n (listed.setIfInBounds i true)) a w)
theorem zF9 : ∀ (n : Nat) (listed : Array Bool) (a : Act) (w : World), wpAnyM P ops Q S n listed a w → wpAny P .any ops Q n listed a w
  | 0, _, _, _, h => h
  | n + 1, _, _, _, h => ⟨h.1, fun i hi => (h.2 i hi).elim (wpOp_mono fun a' w' h' => zF9 n _ a' w' h'.2) (·.2)⟩
theorem wpAnyM_first {i : Nat} {oi : Oper} {v : Value} (hi : ops[i]? = some oi) (hsil : silentB P oi.op = true) (hpu : pureB P oi.op = false) (hsel : ∀ (j : Nat) (o : Oper) cs b, ops[j]? = some o → o.op ≠ .select cs b)
    (hQ : ∀ c a w, Q (.panic c) (a.put oi.dst v) w → Q (.panic c) a w) :
    ∀ (n : Nat) (listed : Array Bool) (a : Act) (w : World), Closed ops listed →
      (∀ j oj, ops[j]? = some oj → j ≠ i → listed.getD j true = false → (∀ e ∈ oj.after, Region.binds .any e = true → e.on ≠ i) → oi.apart ops oj = true) →
      i ∈ Region.ready .any ops listed → YieldsIf P ops S oi v a → S w →
      wpAnyM P ops Q S n (listed.setIfInBounds i true) (a.put oi.dst v) w → wpAnyM P ops Q S (n + 1) listed a w := by
  intro n
  induction n with
  | zero =>
    intro listed a w _ _ hr hy hS H
    refine ⟨fun h => (by rw [h] at hr; cases hr), fun j hj => ?_⟩
    by_cases hji : j = i
    · subst hji; exact .inl (hy.wpOp hi hS ⟨hS, H⟩)
    · have := ready_mono hj hji
      rw [H.1] at this
      cases this
  | succ n ih =>
    intro listed a w hc hfree hr hy hS H
    refine ⟨fun h => (by rw [h] at hr; cases hr), fun j hj => ?_⟩
    by_cases hji : j = i
    · subst hji; exact .inl (hy.wpOp hi hS ⟨hS, H⟩)
    · obtain ⟨hjun, oj, hoj, hall⟩ := mem_ready.1 hj
      have hiun := (mem_ready.1 hr).1
      rcases H.2 j (ready_mono hj hji) with h1 | ⟨hsk, _⟩
      · have hnot : ∀ e ∈ oj.after, Region.binds .any e = true → e.on ≠ i := fun e he hb heq => by
          have h1 := hall e he hb
          rw [heq, zFr hiun] at h1
          cases h1
        have h2 := wpOp_putIf hoj (hfree j oj hoj hji hjun hnot) (fun cs b => hsel i oi cs b hi) (fun cs b => hsel j oj cs b hoj) hQ hy h1
        have hfree' : ∀ k ok, ops[k]? = some ok → k ≠ i → (listed.setIfInBounds j true).getD k true = false →
            (∀ e ∈ ok.after, Region.binds .any e = true → e.on ≠ i) → oi.apart ops ok = true := fun k ok hk hki hun hno => by
          refine hfree k ok hk hki ?_ hno
          by_cases hjk : j = k
          · subst hjk; exact hjun
          · rw [getD_set_ne true hjk] at hun; exact hun
        refine .inl (wpOp_mono (fun a' w' h3 => ⟨h3.2.1, ih (listed.setIfInBounds j true) a' w' (hc.set hj) hfree' (ready_mono hr (Ne.symm hji)) h3.1 h3.2.1 ?_⟩) h2)
        rw [Array.setIfInBounds_comm _ _ hji]
        exact h3.2.2
      · exfalso
        unfold sinkB at hsk
        simp only [List.all_eq_true, List.mem_range, Bool.or_eq_true, beq_iff_eq] at hsk
        have hlt : i < ops.size := (Array.getElem?_eq_some_iff.1 hi).1
        rcases hsk i hlt with (h | h) | h
        · exact hji h.symm
        · rw [hi] at h; simp [hsil, hpu] at h
        · have := zG4 hc _ i j (fun o ho => by rw [hoj] at ho; obtain rfl := Option.some.inj ho; exact hall) h
          rw [zFr hiun] at this
          cases this
theorem zHq {i : Nat} {oi : Oper} {v : Value} (hi : ops[i]? = some oi) (hsel : ∀ (j : Nat) (o : Oper) cs b, ops[j]? = some o → o.op ≠ .select cs b)
    (hQ : ∀ c a w, Q (.panic c) (a.put oi.dst v) w → Q (.panic c) a w) :
    ∀ (n : Nat) (listed : Array Bool) (a : Act) (w : World), 
      (∀ j oj, ops[j]? = some oj → j ≠ i → listed.getD j true = false → (∀ e ∈ oj.after, Region.binds .any e = true → e.on ≠ i) → oi.apart ops oj = true) →
      i ∈ Region.ready .any ops listed → Yields P ops oi v a → S w →
      wpAnyM P ops Q S n (listed.setIfInBounds i true) (a.put oi.dst v) w → wpAnyM P ops Q S (n + 1) listed a w := by
  intro n
  induction n with
  | zero =>
    intro listed a w _ hr hy hS H
    refine ⟨fun h => (by rw [h] at hr; cases hr), fun j hj => ?_⟩
    by_cases hji : j = i
    · subst hji; exact .inl (hy.wpOp hi ⟨hS, H⟩)
    · have := ready_mono hj hji
      rw [H.1] at this
      cases this
  | succ n ih =>
    intro listed a w hfree hr hy hS H
    refine ⟨fun h => (by rw [h] at hr; cases hr), fun j hj => ?_⟩
    by_cases hji : j = i
    · subst hji; exact .inl (hy.wpOp hi ⟨hS, H⟩)
    · obtain ⟨hjun, oj, hoj, hall⟩ := mem_ready.1 hj
      have hiun := (mem_ready.1 hr).1
      have hnot : ∀ e ∈ oj.after, Region.binds .any e = true → e.on ≠ i := fun e he hb heq => by
        have h1 := hall e he hb
        rw [heq, zFr hiun] at h1
        cases h1
      have hfree' : ∀ k ok, ops[k]? = some ok → k ≠ i → (listed.setIfInBounds j true).getD k true = false →
          (∀ e ∈ ok.after, Region.binds .any e = true → e.on ≠ i) → oi.apart ops ok = true := fun k ok hk hki hun hno => by
        refine hfree k ok hk hki ?_ hno
        by_cases hjk : j = k
        · subst hjk; exact hjun
        · rw [getD_set_ne true hjk] at hun; exact hun
      have hap := hfree j oj hoj hji hjun hnot
      rcases H.2 j (ready_mono hj hji) with h1 | ⟨hsk, h1⟩
      · have h2 := wpOp_put hoj hap (fun cs b => hsel i oi cs b hi) (fun cs b => hsel j oj cs b hoj) hQ hy h1
        refine .inl (wpOp_mono (fun a' w' h3 => ⟨h3.2.1, ih (listed.setIfInBounds j true) a' w' hfree' (ready_mono hr (Ne.symm hji)) h3.1 h3.2.1 ?_⟩) h2)
        rw [Array.setIfInBounds_comm _ _ hji]
        exact h3.2.2
      · have h2 := wpOp_put hoj hap (fun cs b => hsel i oi cs b hi) (fun cs b => hsel j oj cs b hoj) hQ hy h1
        refine .inr ⟨hsk, wpOp_mono (fun a' w' h3 => ?_) h2⟩
        refine wpAny_first hi hsel hQ n (listed.setIfInBounds j true) a' w' hfree' (ready_mono hr (Ne.symm hji)) h3.1 ?_
        rw [Array.setIfInBounds_comm _ _ hji]
        exact h3.2
end
inductive Tr where
  | done
  | take (i : Nat) (p : Tr)
  | only (i : Nat) (p : Tr)
  | both (i : Nat) (p : Tr) (j : Nat) (q : Tr)
  | cut (l : List Nat)
section
variable {P : Program} {w0 : World} {h : PH} {N : Nat} {K : Fr → PH → Prop}
def Tr.len : Tr → Nat
  | .done => 0
  | .take _ p => p.len + 1
  | .only _ p => p.len + 1
  | .both _ p _ q => max p.len q.len + 1
  | .cut l => l.length
def cutOk (ops : Array Oper) : List Nat → Array Bool → Bool
  | [], listed => (Region.ready .any ops listed).isEmpty
  | i :: l, listed => (Region.ready .any ops listed == [i]) && cutOk ops l (listed.setIfInBounds i true)
def trOk (P : Program) (ops : Array Oper) : Tr → Array Bool → Bool
  | .done, listed => (Region.ready .any ops listed).isEmpty
  | .take i p, listed => (match ops[i]? with
    | some o => if silentB P o.op = true then Region.free .any ops listed i && (Region.ready .any ops listed).contains i else Region.ready .any ops listed == [i]
    | none => false) && trOk P ops p (listed.setIfInBounds i true)
  | .only i p, listed => (Region.ready .any ops listed == [i]) && trOk P ops p (listed.setIfInBounds i true)
  | .both i p j q, listed => (Region.ready .any ops listed == [i, j]) && trOk P ops p (listed.setIfInBounds i true) && trOk P ops q (listed.setIfInBounds j true)
  | .cut l, listed => (match l with
    | [] => false
    | i :: _ => sinkB P ops i) && cutOk ops l listed
def vcCut (P : Program) (w0 : World) (ops : Array Oper) : List Nat → Fr → PH → (Fr → PH → Prop) → Prop
  | [], f, h, K => K f h
  | i :: l, f, h, K => match ops[i]? with
    | some o => vcG P w0 ops o f h fun f' h' => vcCut P w0 ops l f' h' K
    | none => False
def vcTr (P : Program) (w0 : World) (hS : PH) (ops : Array Oper) : Tr → Fr → PH → (Fr → PH → Prop) → Prop
  | .done, f, h, K => K f h
  | .take i p, f, h, K => match ops[i]? with
    | some o => if silentB P o.op = true then vcG P w0 ops o f hS fun f' _ => vcTr P w0 hS ops p f' h K
      else vcG P w0 ops o f h fun f' h' => PH.Sub w0 hS h' ∧ vcTr P w0 hS ops p f' h' K
    | none => False
  | .only i p, f, h, K => (match ops[i]? with
    | some o => vcG P w0 ops o f h fun f' h' => PH.Sub w0 hS h' ∧ vcTr P w0 hS ops p f' h' K
    | none => False)
  | .both i p j q, f, h, K => (match ops[i]? with
    | some o => vcG P w0 ops o f h fun f' h' => PH.Sub w0 hS h' ∧ vcTr P w0 hS ops p f' h' K
    | none => False) ∧ (match ops[j]? with
    | some o => vcG P w0 ops o f h fun f' h' => PH.Sub w0 hS h' ∧ vcTr P w0 hS ops q f' h' K
    | none => False)
  | .cut l, f, h, K => vcCut P w0 ops l f h K
def SP (P : Program) (N : Nat) (o : Oper) (f : Fr) (h : PH) (K : Fr → PH → Prop) : Prop :=
  ∃ v, K (f.put o.dst v) h ∧ ∀ a w, FSat f a N → (execOp a.eval o).run P w = .ok (.value v) w
theorem zCy {o : Oper} {f : Fr} {v : Value} (hr : ∀ a w, FSat f a N → (execOp a.eval o).run P w = .ok (.value v) w) (hk : K (f.put o.dst v) h) : SP P N o f h K := ⟨v, hk, hr⟩
theorem zBu {o : Oper} {f : Fr} {m : Sem Value} (hr : ∀ a, FSat f a N → execOp a.eval o = (do pure (Next.value (← m)))) (hk : Yld P m fun r => K (f.put o.dst r) h) : SP P N o f h K := by
  obtain ⟨r, h1, h2⟩ := hk
  refine ⟨r, h2, fun a w fs => ?_⟩
  rw [hr a fs]
  simp only [Sem.run_bind, h1, Result.andThen_ok, Sem.run_pure]
theorem SP_bYld {o : Oper} {f : Fr} {m : Sem Value} {c : Call} {b : Builtin} {vs : List Value} (hb : c.callee = .builtin b) (he : evs f c.args = some vs) (ho : o.op = .call c)
    (hm : ∀ ks, builtin b c.argTypes o.type ks vs.toArray = (do pure (Next.value (← m)))) (hk : Yld P m fun r => K (f.put o.dst r) h) : SP P N o f h K := by
  obtain ⟨r, h1, h2⟩ := hk
  refine ⟨r, h2, fun a w fs => ?_⟩
  rw [zCv (g := fun _ _ => True) hb (zBl fs he) ho hm]
  simp only [Sem.run_bind, h1, Result.andThen_ok, Sem.run_pure]
set_option maxHeartbeats 1000000 in
theorem vcOp_pure {o : Oper} {f : Fr} (hs : pureB P o.op = true) (hv : vcOp P w0 o f h K) : SP P N o f h K := by
  unfold vcOp at hv
  cases ho : o.op
  all_goals simp only [ho] at hv
  case move x =>
    obtain ⟨v, h1, h2⟩ := zAs hv
    exact zCy (fun a w fs => by unfold execOp; simp only [ho, zAr fs h1, Sem.run_pure]) h2
  case assign x =>
    obtain ⟨v, h1, h2⟩ := zAs hv
    exact zCy (fun a w fs => by unfold execOp; simp only [ho, zAr fs h1, Sem.run_pure]) h2
  case pick c x y =>
    obtain ⟨t, h1, h2⟩ := zAs hv
    obtain ⟨u, h3, h4⟩ := zAs h2
    obtain ⟨v, h5, h6⟩ := zAs h4
    split at h6
    · rename_i t
      refine zCy (fun a w fs => ?_) h6
      unfold execOp
      simp only [ho, zAr fs h1, zAr fs h3, zAr fs h5, asBool, Sem.run_bind, Sem.run_pure, Result.andThen_ok]
    · exact h6.elim
  case nilCheck x =>
    obtain ⟨v, h1, r, h2, h3⟩ := zAs hv
    exact zCy (fun a w fs => nil_run ho (zAr fs h1) (h2 w)) h3
  case binOp op t x y yt =>
    obtain ⟨u, h1, h2⟩ := zAs hv
    obtain ⟨v, h3, h4⟩ := zAs h2
    exact zBu (fun a fs => by unfold execOp; simp only [ho, zAr fs h1, zAr fs h3]; rfl) h4
  case unOp op t x =>
    obtain ⟨v, h1, h2⟩ := zAs hv
    exact zBu (fun a fs => by unfold execOp; simp only [ho, zAr fs h1]) h2
  case makeInterface t x =>
    obtain ⟨v, h1, h2⟩ := zAs hv
    exact zBu (fun a fs => by unfold execOp; simp only [ho, zAr fs h1]) h2
  case makeFunc fn first cap =>
    obtain ⟨u, h1, h2⟩ := zBm hv
    obtain ⟨v, h3, h4⟩ := zBm h2
    exact zCy (fun a w fs => by unfold execOp; simp only [ho, zBl fs h1, zBl fs h3, Instr.makeFunc, Sem.run_bind, Sem.run_pure, Result.andThen_ok]) h4
  case slice t x lo hi mx =>
    obtain ⟨v, h1, h2⟩ := zAs hv
    obtain ⟨lo', l1, h2⟩ := zDe h2
    obtain ⟨hi', l2, h2⟩ := zDe h2
    obtain ⟨mx', l3, h2⟩ := zDe h2
    exact zBu (fun a fs => by unfold execOp; simp only [ho, zAr fs h1, l1 fs, l2 fs, l3 fs]) h2
  case fieldAddr t x i =>
    obtain ⟨v, h1, h2⟩ := zAs hv
    exact zBu (fun a fs => by unfold execOp; simp only [ho, zAr fs h1]) h2
  case field t x i =>
    obtain ⟨v, h1, h2⟩ := zAs hv
    exact zBu (fun a fs => by unfold execOp; simp only [ho, zAr fs h1]) h2
  case indexAddr t x i =>
    obtain ⟨u, h1, h2⟩ := zAs hv
    obtain ⟨v, h3, h4⟩ := zAs h2
    exact zBu (fun a fs => by unfold execOp; simp only [ho, zAr fs h1, zAr fs h3]) h4
  case index t x i =>
    obtain ⟨u, h1, h2⟩ := zAs hv
    obtain ⟨v, h3, h4⟩ := zAs h2
    exact zBu (fun a fs => by unfold execOp; simp only [ho, zAr fs h1, zAr fs h3]) h4
  case extract x i =>
    obtain ⟨v, h1, h2⟩ := zAs hv
    split at h2
    · rename_i vs
      split at h2
      · rename_i u hu
        exact zCy (fun a w fs => by unfold execOp; simp only [ho, zAr fs h1, Instr.extract, hu, Sem.run_bind, Sem.run_pure, Result.andThen_ok]) h2
      · exact h2.elim
    · exact h2.elim
  case typeAssert x t u ok =>
    obtain ⟨v, h1, h2⟩ := zAs hv
    exact zBu (fun a fs => by unfold execOp; simp only [ho, zAr fs h1]) h2
  case build t parts =>
    obtain ⟨vs, h1, h2⟩ := zBm hv
    exact zBu (fun a fs => by unfold execOp; simp only [ho, zE3 fs h1]) h2
  case convert s d x =>
    rw [ho] at hs
    simp only [pureB, Bool.and_eq_true, Bool.not_eq_true'] at hs
    obtain ⟨v, h1, h2⟩ := zAs hv
    rw [hs.1, zBj, hs.2, zBj] at h2
    exact zBu (fun a fs => by unfold execOp; simp only [ho, zAr fs h1]) h2
  case call c =>
    rw [ho] at hs
    unfold vcCall at hv
    obtain ⟨callee, args, argTypes⟩ := c
    cases callee with
    | value x => cases hs
    | invoke r n => cases hs
    | builtin b =>
      obtain ⟨vs, h1, h2⟩ := zBm hv
      cases b <;> first | (exact SP_bYld rfl h1 ho (fun _ => rfl) h2) | cases hs
  all_goals (rw [ho] at hs; cases hs)
theorem zC4 {hS : PH} {ops : Array Oper} {Q : Exit → Act → World → Prop} (hok : opsOk N ops.toList = true) {k : Nat} {f : Fr} {a : Act} {w : World} (fs : FSat f a N) (s : Sim w0 h w) {R : Fr → PH → Prop} {L : Act → World → Prop} (hv : (match ops[k]? with
    | some o => vcG P w0 ops o f h R
    | none => False)) (hL : ∀ f' h' a' w', R f' h' → FSat f' a' N → Sim w0 h' w' → L a' w') : wpOp P ops Q k L a w := by
  cases ho : ops[k]? with
  | none => rw [ho] at hv; exact hv.elim
  | some o =>
    have hdo : dstOk N o.dst = true := by
      simp only [opsOk, List.all_eq_true] at hok
      exact hok o (by rw [Array.mem_toList_iff]; exact Array.mem_of_getElem? ho)
    simp only [ho] at hv
    unfold wpOp
    simp only [ho]
    rcases zBr (N := N) hv with ⟨h1, h2⟩ | ⟨h1, h2⟩
    · rw [if_pos (h2 a fs)]
      exact .inl (zC8 hdo h1 a w fs s _ _ fun f' h' a' w' q r t => hL f' h' a' w' q r t)
    · rw [if_neg (by rw [h2 a fs]; simp)]
      exact hL _ _ _ _ h1 (fs.put hdo _) s
theorem zGs {hS : PH} {ops : Array Oper} {Q : Exit → Act → World → Prop} (hok : opsOk N ops.toList = true) :
    ∀ (l : List Nat) (fuel : Nat) (listed : Array Bool) (f : Fr) (h : PH), l.length ≤ fuel → cutOk ops l listed = true → vcCut P w0 ops l f h K →
      ∀ a w, FSat f a N → Sim w0 h w → (∀ f' h' a' w', K f' h' → FSat f' a' N → Sim w0 h' w' → Q .normal a' w') → wpAny P .any ops Q fuel listed a w
  | [], fuel, listed, f, h, _, hp, hv, a, w, fs, s, hK => by
    simp only [cutOk, List.isEmpty_iff] at hp
    have := hK f h a w hv fs s
    cases fuel with
    | zero => exact ⟨hp, this⟩
    | succ n => exact ⟨fun _ => this, fun i hi => by rw [hp] at hi; cases hi⟩
  | i :: l, 0, listed, f, h, hlen, hp, hv, a, w, fs, s, hK => absurd hlen (by simp)
  | i :: l, fuel + 1, listed, f, h, hlen, hp, hv, a, w, fs, s, hK => by
    simp only [cutOk, Bool.and_eq_true] at hp
    simp only [vcCut] at hv
    have hr : Region.ready .any ops listed = [i] := by simpa using hp.1
    refine ⟨fun h0 => (by rw [hr] at h0; cases h0), fun j hj => ?_⟩
    obtain rfl : j = i := by rw [hr] at hj; simpa using hj
    exact zC4 (hS := hS) hok fs s hv fun f' h' a' w' q r t => zGs (hS := hS) hok l fuel _ f' h' (by simpa using hlen) hp.2 q a' w' r t hK
theorem zCh {hS : PH} {ops : Array Oper} {Q : Exit → Act → World → Prop} (hok : opsOk N ops.toList = true) (hsel : Region.noSelect ops = true) (hQ : ∀ c a d v w, Q (.panic c) (Act.put a d v) w → Q (.panic c) a w) :
    ∀ (l : Tr) (fuel : Nat) (listed : Array Bool) (f : Fr) (h : PH), l.len ≤ fuel → trOk P ops l listed = true → Closed ops listed → vcTr P w0 hS ops l f h K → PH.Sub w0 hS h →
      ∀ a w, FSat f a N → Sim w0 h w → (∀ f' h' a' w', K f' h' → FSat f' a' N → Sim w0 h' w' → Q .normal a' w') → wpAnyM P ops Q (Sim w0 hS) fuel listed a w
  | .done, fuel, listed, f, h, _, hp, hc, hv, hl, a, w, fs, s, hK => by
    simp only [trOk, List.isEmpty_iff] at hp
    have := hK f h a w hv fs s
    cases fuel with
    | zero => exact ⟨hp, this⟩
    | succ n => exact ⟨fun _ => this, fun i hi => by rw [hp] at hi; cases hi⟩
  | .take i l, 0, listed, f, h, hlen, hp, hc, hv, hl, a, w, fs, s, hK => absurd hlen (by simp [Tr.len])
  | .only i l, 0, listed, f, h, hlen, hp, hc, hv, hl, a, w, fs, s, hK => absurd hlen (by simp [Tr.len])
  | .both i l j q, 0, listed, f, h, hlen, hp, hc, hv, hl, a, w, fs, s, hK => absurd hlen (by simp [Tr.len])
  | .take i l, fuel + 1, listed, f, h, hlen, hp, hc, hv, hl, a, w, fs, s, hK => by
    simp only [trOk, Bool.and_eq_true (a := match ops[i]? with | some o => _ | none => false)] at hp
    simp only [vcTr] at hv
    obtain ⟨hp1, hp2⟩ := hp
    have hlen' : l.len ≤ fuel := by simp only [Tr.len] at hlen; omega
    cases ho : ops[i]? with
    | none => rw [ho] at hp1; cases hp1
    | some o =>
      have hdo : dstOk N o.dst = true := by
        simp only [opsOk, List.all_eq_true] at hok
        exact hok o (by rw [Array.mem_toList_iff]; exact Array.mem_of_getElem? ho)
      simp only [ho] at hp1 hv
      by_cases hs : silentB P o.op = true
      · rw [if_pos hs] at hp1 hv
        simp only [Bool.and_eq_true] at hp1
        have hir : i ∈ Region.ready .any ops listed := by simpa using hp1.2
        rcases zBr (N := N) hv with ⟨h1, h2⟩ | ⟨h1, h2⟩
        · by_cases hpu : pureB P o.op = true
          · obtain ⟨v, h3, h4⟩ := vcOp_pure (N := N) hpu h1
            exact zHq ho (Region.noSelect_spec hsel) (fun c a w q => hQ c a _ v w q) fuel listed a w (Region.free_spec ho hp1.1) hir (.inl ⟨h2 a fs, fun w' => h4 a w' fs⟩) (hl _ s) (zCh hok hsel hQ l fuel _ _ h hlen' hp2 (hc.set hir) h3 hl _ w (fs.put hdo v) s hK)
          obtain ⟨v, h3, h4⟩ := zCu hs hdo h1
          exact wpAnyM_first ho hs (by simpa using hpu) (Region.noSelect_spec hsel) (fun c a w q => hQ c a _ v w q) fuel listed a w hc (Region.free_spec ho hp1.1) hir (.inl ⟨h2 a fs, fun w' s' => h4 a w' fs s'⟩) (hl _ s) (zCh hok hsel hQ l fuel _ _ h hlen' hp2 (hc.set hir) h3 hl _ w (fs.put hdo v) s hK)
        · exact zHq ho (Region.noSelect_spec hsel) (fun c a w q => hQ c a _ undef w q) fuel listed a w (Region.free_spec ho hp1.1) hir (.inr ⟨h2 a fs, rfl⟩) (hl _ s) (zCh hok hsel hQ l fuel _ _ h hlen' hp2 (hc.set hir) h1 hl _ w (fs.put hdo _) s hK)
      · rw [if_neg hs] at hp1 hv
        have hr : Region.ready .any ops listed = [i] := by simpa using hp1
        refine ⟨fun h0 => (by rw [hr] at h0; cases h0), fun j hj => ?_⟩
        obtain rfl : j = i := by rw [hr] at hj; simpa using hj
        exact .inl (zC4 (hS := hS) hok fs s (R := fun f' h' => PH.Sub w0 hS h' ∧ vcTr P w0 hS ops l f' h' K) (by rw [ho]; exact hv) fun f' h' a' w' q r t => ⟨q.1 _ t, zCh hok hsel hQ l fuel _ f' h' hlen' hp2 (hc.set hj) q.2 q.1 a' w' r t hK⟩)
  | .only i l, fuel + 1, listed, f, h, hlen, hp, hc, hv, hl, a, w, fs, s, hK => by
    simp only [trOk, Bool.and_eq_true] at hp
    simp only [vcTr] at hv
    obtain ⟨hp1, hp2⟩ := hp
    have hlen' : l.len ≤ fuel := by simp only [Tr.len] at hlen; omega
    have hr : Region.ready .any ops listed = [i] := by simpa using hp1
    refine ⟨fun h0 => (by rw [hr] at h0; cases h0), fun j hj => ?_⟩
    obtain rfl : j = i := by rw [hr] at hj; simpa using hj
    exact .inl (zC4 (hS := hS) hok fs s hv fun f' h' a' w' q r t => ⟨q.1 _ t, zCh hok hsel hQ l fuel _ f' h' hlen' hp2 (hc.set hj) q.2 q.1 a' w' r t hK⟩)
  | .cut l, fuel, listed, f, h, hlen, hp, hc, hv, hl, a, w, fs, s, hK => by
    simp only [trOk, Bool.and_eq_true] at hp
    simp only [vcTr] at hv
    cases l with
    | nil => exact absurd hp.1 (by simp)
    | cons i l =>
      obtain ⟨hsk, hp⟩ := hp
      simp only [cutOk, Bool.and_eq_true] at hp
      have hr : Region.ready .any ops listed = [i] := by simpa using hp.1
      cases fuel with
      | zero => simp [Tr.len] at hlen
      | succ fuel =>
        refine ⟨fun h0 => (by rw [hr] at h0; cases h0), fun j hj => ?_⟩
        obtain rfl : j = i := by rw [hr] at hj; simpa using hj
        refine .inr ⟨hsk, zC4 (hS := hS) hok fs s hv fun f' h' a' w' q r t => ?_⟩
        exact zGs (hS := hS) hok l fuel _ f' h' (by simp only [Tr.len, List.length_cons] at hlen; omega) hp.2 q a' w' r t hK
  | .both i l j q, fuel + 1, listed, f, h, hlen, hp, hc, hv, hl, a, w, fs, s, hK => by
    simp only [trOk, Bool.and_eq_true] at hp
    simp only [vcTr] at hv
    obtain ⟨⟨hp1, hp2⟩, hp3⟩ := hp
    obtain ⟨hv1, hv2⟩ := hv
    have hl1 : l.len ≤ fuel := by simp only [Tr.len] at hlen; omega
    have hl2 : q.len ≤ fuel := by simp only [Tr.len] at hlen; omega
    have hr : Region.ready .any ops listed = [i, j] := by simpa using hp1
    refine ⟨fun h0 => (by rw [hr] at h0; cases h0), fun k hk => .inl ?_⟩
    have hk' : k = i ∨ k = j := by rw [hr] at hk; simpa using hk
    rcases hk' with rfl | rfl
    · exact zC4 (hS := hS) hok fs s hv1 fun f' h' a' w' q' r t => ⟨q'.1 _ t, zCh hok hsel hQ l fuel _ f' h' hl1 hp2 (hc.set hk) q'.2 q'.1 a' w' r t hK⟩
    · exact zC4 (hS := hS) hok fs s hv2 fun f' h' a' w' q' r t => ⟨q'.1 _ t, zCh hok hsel hQ q fuel _ f' h' hl2 hp3 (hc.set hk) q'.2 q'.1 a' w' r t hK⟩
def vcUS (P : Program) (w0 : World) (hS : PH) (ops : List Oper) (l : Tr) (f : Fr) (h : PH) (K : Fr → PH → Prop) (_ : Seal ops := ⟨⟩) (_ : Seal K := ⟨⟩) : Prop := vcTr P w0 hS ops.toArray l f h K
def vcUO (P : Program) (w0 : World) (hS : PH) (ops : List Oper) (o : Option Oper) (l : Tr) (f : Fr) (h : PH) (K : Fr → PH → Prop) (_ : Seal ops := ⟨⟩) (_ : Seal K := ⟨⟩) : Prop := match o with
  | some o => if silentB P o.op = true then vcG P w0 ops.toArray o f hS fun f' _ => vcTr P w0 hS ops.toArray l f' h K
      else vcG P w0 ops.toArray o f h fun f' h' => PH.Sub w0 hS h' ∧ vcTr P w0 hS ops.toArray l f' h' K
  | none => False
def vcUL (P : Program) (w0 : World) (hS : PH) (ops : List Oper) (o : Option Oper) (l : Tr) (f : Fr) (h : PH) (K : Fr → PH → Prop) (_ : Seal ops := ⟨⟩) (_ : Seal K := ⟨⟩) : Prop := match o with
  | some o => vcG P w0 ops.toArray o f h fun f' h' => PH.Sub w0 hS h' ∧ vcTr P w0 hS ops.toArray l f' h' K
  | none => False
def vcUE (P : Program) (w0 : World) (ops : List Oper) (o : Option Oper) (f : Fr) (h : PH) (K : Fr → PH → Prop) (_ : Seal ops := ⟨⟩) (_ : Seal K := ⟨⟩) : Prop := match o with
  | some o => vcG P w0 ops.toArray o f h K
  | none => False
def vcUC (P : Program) (w0 : World) (ops : List Oper) (l : List Nat) (f : Fr) (h : PH) (K : Fr → PH → Prop) (_ : Seal ops := ⟨⟩) (_ : Seal K := ⟨⟩) : Prop := vcCut P w0 ops.toArray l f h K
theorem zAo {f : Fr} (hS : PH) (ops : List Oper) : vcUS P w0 hS ops .done f h K = K f h := rfl
theorem zAg {f : Fr} (hS : PH) (ops : List Oper) (i : Nat) (l : Tr) : vcUS P w0 hS ops (.take i l) f h K = vcUO P w0 hS ops (nthO ops i) l f h K := by
  unfold vcUS vcUO
  rw [zB6]
  rfl
theorem zAm {f : Fr} (hS : PH) (ops : List Oper) (i : Nat) (l : Tr) : vcUS P w0 hS ops (.only i l) f h K = vcUL P w0 hS ops (nthO ops i) l f h K := by
  unfold vcUS vcUL
  rw [zB6]
  rfl
theorem zAj {f : Fr} (hS : PH) (ops : List Oper) (i : Nat) (l : Tr) (j : Nat) (q : Tr) : vcUS P w0 hS ops (.both i l j q) f h K = (vcUL P w0 hS ops (nthO ops i) l f h K ∧ vcUL P w0 hS ops (nthO ops j) q f h K) := by
  unfold vcUS vcUL
  rw [zB6, zB6]
  rfl
theorem zAh {f : Fr} (hS : PH) (ops : List Oper) (l : List Nat) : vcUS P w0 hS ops (.cut l) f h K = vcUC P w0 ops l f h K := rfl
theorem zAk {f : Fr} (ops : List Oper) : vcUC P w0 ops [] f h K = K f h := rfl
theorem zAl {f : Fr} (ops : List Oper) (i : Nat) (l : List Nat) : vcUC P w0 ops (i :: l) f h K = vcUE P w0 ops (nthO ops i) f h fun f' h' => vcUC P w0 ops l f' h' K := by
  unfold vcUC vcUE
  rw [zB6]
  rfl
theorem zAi {f : Fr} (hS : PH) (ops : List Oper) (o : Oper) (l : Tr) : vcUO P w0 hS ops (some o) l f h K = vcIf (silentB P o.op) (vcM P w0 ops.toArray [o] f hS fun f' _ => vcUS P w0 hS ops l f' h K) (vcM P w0 ops.toArray [o] f h fun f' h' => vcLe w0 hS h' (vcUS P w0 hS ops l f' h' K)) := by
  unfold vcUO
  cases hs : silentB P o.op
  · rw [zBj, zBc]; simp only [hs, Bool.false_eq_true, if_false]; rfl
  · rw [zBn, zBc]; simp only [hs, if_true]; rfl
theorem zAn {f : Fr} (hS : PH) (ops : List Oper) (o : Oper) (l : Tr) : vcUL P w0 hS ops (some o) l f h K = vcM P w0 ops.toArray [o] f h fun f' h' => vcLe w0 hS h' (vcUS P w0 hS ops l f' h' K) := by
  unfold vcUL
  rw [zBc]
  rfl
theorem zAf {f : Fr} (ops : List Oper) (o : Oper) : vcUE P w0 ops (some o) f h K = vcM P w0 ops.toArray [o] f h K := by
  unfold vcUE
  rw [zBc]
  rfl
theorem zB0 {f : Fr} {id : Nat} {ops : List Oper} {Q : Exit → Fr → PH → Prop} (l : Tr) (hS : PH) (hm : P.follows .mixedOrders = true) (hp : trOk P ops.toArray l (Array.replicate ops.toArray.size false) = true) (hlen : Nat.ble l.len ops.toArray.size = true) (hok : opsOk N ops = true) (hsel : Region.noSelect ops.toArray = true)
    (hQ : ∀ c f h, ¬ Q (.panic c) f h) (hl : PH.Sub w0 hS h) (hv : vcUS P w0 hS ops l f h (Q .normal)) : PW P w0 N (.region id ops.toArray true) f h Q := by
  intro a w fs s
  refine wp_region_any hm (zF9 (S := Sim w0 hS) _ _ _ _ ?_)
  exact zCh (by simpa using hok) hsel (fun c a d v w => by rintro ⟨f', h', q, _⟩; exact absurd q (hQ c f' h')) l _ _ f h (Nat.le_of_ble_eq_true hlen) hp (fun k hk => by simp [Array.getD] at hk) hv hl a _ fs s.drew fun f' h' a' w' q r t => ⟨f', h', q, r, t⟩
end
end Go.Proofs.Ytblikpbaeippaaa.Px


namespace Go.Proofs.Ytblikpbaeippaaa
set_option linter.unusedVariables false
set_option linter.unusedSimpArgs false
open Go.RowKit Px
theorem ib_any (s : List UInt8) (c : UInt8) (w0 : World) (h : PH) : PCalls Try.prog w0 80 [str s, u8 c] h fun r h' => r = .int .i64 (Lib.indexByte s c) ∧ h' = h := by
  refine zEw _ (fun w => ?_) ⟨rfl, rfl⟩
  rw [@run_callFunc_extern Try.prog 80 _ Extern.BytealgIndexByte.indexByte Try.func80 (by kernel_rfl) (by kernel_rfl) (by kernel_rfl) (by kernel_rfl)]
  have := Lib.run_indexByteString (P := Try.prog) ⟨s.toArray⟩ (c.toNat : Int) w
  unfold str u8
  rw [this]
  simp
set_option maxRecDepth 20000 in
theorem ib1_any (s : List UInt8) (c : UInt8) (w0 : World) (h : PH) : PCalls Try.prog w0 74 [str s, u8 c] h fun r h' => r = .int .i64 (Lib.indexByte s c) ∧ h' = h := by
  refine zAp Try.func74 (by kernel_rfl) rfl _ Try.ntmps74 (by kernel_rfl) (by kernel_rfl) _ Try.results74 ?_
  have hI := Lib.hid (ib_any s c w0 h)
  simp -dsimp -implicitDefEqProofs (disch := first | omega | assumption | (simp only [Option.isSome_some,Qt0]; done) | (simp only [List.length_cons,List.length_nil,List.length_append,Int.toNat_natCast] <;> omega) | fail) only [Nat.reduceLT,Nat.reduceLeDiff,Nat.reduceEqDiff,↓reduceIte,Int.reduceLT,Int.reduceLE,Int.reduceToNat,Int.reduceEq,Int.reduceNe,Nat.reduceAdd,Int.reduceAdd,Int.reduceSub,Int.reduceMul,Nat.reduceMul,Qp0,Qp1,Ql0,Qe0]
  refine hI.out.mono ?_
  rintro v hz ⟨rfl, rfl⟩
  simp -dsimp -implicitDefEqProofs (disch := first | omega | assumption | (simp only [Option.isSome_some,Qt0]; done) | (simp only [List.length_cons,List.length_nil,List.length_append,Int.toNat_natCast] <;> omega) | fail) only [Nat.reduceLT,Nat.reduceLeDiff,Nat.reduceEqDiff,↓reduceIte,Int.reduceLT,Int.reduceLE,Int.reduceToNat,Int.reduceEq,Int.reduceNe,Nat.reduceAdd,Int.reduceAdd,Int.reduceSub,Int.reduceMul,Nat.reduceMul,Qp0,Qp1,Ql0,Qe0]
  exact ⟨_, PH.Le.refl _, by trivial, rfl⟩
set_option maxRecDepth 20000 in
theorem ib2_any (s : List UInt8) (c : UInt8) (w0 : World) (h : PH) : PCalls Try.prog w0 62 [str s, u8 c] h fun r h' => r = .int .i64 (Lib.indexByte s c) ∧ h' = h := by
  refine zAp Try.func62 (by kernel_rfl) rfl _ Try.ntmps62 (by kernel_rfl) (by kernel_rfl) _ Try.results62 ?_
  have hI := Lib.hid (ib1_any s c w0 h)
  simp -dsimp -implicitDefEqProofs (disch := first | omega | assumption | (simp only [Option.isSome_some,Qt0]; done) | (simp only [List.length_cons,List.length_nil,List.length_append,Int.toNat_natCast] <;> omega) | fail) only [Nat.reduceLT,Nat.reduceLeDiff,Nat.reduceEqDiff,↓reduceIte,Int.reduceLT,Int.reduceLE,Int.reduceToNat,Int.reduceEq,Int.reduceNe,Nat.reduceAdd,Int.reduceAdd,Int.reduceSub,Int.reduceMul,Nat.reduceMul,Qp0,Qp1,Ql0,Qe0]
  refine hI.out.mono ?_
  rintro v hz ⟨rfl, rfl⟩
  simp -dsimp -implicitDefEqProofs (disch := first | omega | assumption | (simp only [Option.isSome_some,Qt0]; done) | (simp only [List.length_cons,List.length_nil,List.length_append,Int.toNat_natCast] <;> omega) | fail) only [Nat.reduceLT,Nat.reduceLeDiff,Nat.reduceEqDiff,↓reduceIte,Int.reduceLT,Int.reduceLE,Int.reduceToNat,Int.reduceEq,Int.reduceNe,Nat.reduceAdd,Int.reduceAdd,Int.reduceSub,Int.reduceMul,Nat.reduceMul,Qp0,Qp1,Ql0,Qe0]
  exact ⟨_, PH.Le.refl _, by trivial, rfl⟩
theorem index_hit : ∀ (l : List UInt8) (c : UInt8) (k : Nat), (∀ j, j < k → l[j]? ≠ some c) → l[k]? = some c → Lib.indexByte l c = k
  | [], c, k, _, h => by simp at h
  | b :: l, c, 0, _, h => by
    have : b = c := by simpa using h
    simp [Lib.indexByte, this]
  | b :: l, c, k + 1, hj, h => by
    have hb : (b == c) = false := by
      have := hj 0 (by omega)
      simpa using this
    have ih := index_hit l c k (fun j hjk => by have := hj (j + 1) (by omega); simpa using this) (by simpa using h)
    have hne : ((k : Int) == -1) = false := by rw [beq_eq_false_iff_ne]; omega
    unfold Lib.indexByte
    rw [hb, ih, hne]
    simp
theorem zGe : ∀ (l : List UInt8) (c : UInt8), (∀ j : Nat, l[j]? ≠ some c) → Lib.indexByte l c = -1
  | [], c, _ => rfl
  | b :: l, c, hj => by
    have hb : (b == c) = false := by
      have := hj 0
      simpa using this
    have ih := zGe l c (fun j => by have := hj (j + 1); simpa using this)
    unfold Lib.indexByte
    rw [hb, ih]
    simp
def First (s : List UInt8) (a v : Int) : Prop := (∃ k : Nat, v = k ∧ a ≤ k ∧ s[k]? = some 1 ∧ ∀ j : Nat, j < k → a ≤ j → s[j]? ≠ some 1) ∨ (v = -1 ∧ ∀ j : Nat, a ≤ j → s[j]? ≠ some 1)
set_option maxRecDepth 20000 in
theorem find_any (s : List UInt8) (a v : Int) (hs : s.length ≤ 3100000) (hv : First s a v) (w0 : World) (h : PH) : PCalls Try.prog w0 47 [str s, .int .i64 a] h fun r h' => r = .int .i64 v ∧ h' = h := by
  refine zAp Try.func47 (by kernel_rfl) rfl _ Try.ntmps47 (by kernel_rfl) (by kernel_rfl) _ Try.results47 ?_
  obtain ⟨n, hn, hna⟩ : ∃ n : Nat, (if 0 > a then 0 else a) = (n : Int) ∧ (∀ j : Nat, a ≤ j ↔ n ≤ j) := by
    by_cases h0 : 0 > a
    · exact ⟨0, by rw [if_pos h0]; rfl, fun j => by omega⟩
    · exact ⟨a.toNat, by rw [if_neg h0]; omega, fun j => by omega⟩
  by_cases hl : (s.length : Int) ≤ (n : Int)
  · have d1 := decide_eq_true hl
    have hv1 : v = -1 := by
      rcases hv with ⟨k, _, hk, h1, _⟩ | ⟨h1, _⟩
      · have := (hna k).1 hk
        rw [List.getElem?_eq_none (by omega)] at h1; cases h1
      · exact h1
    subst hv1
    simp -dsimp -implicitDefEqProofs (disch := first | omega | assumption | (simp only [Option.isSome_some,Qt0]; done) | (simp only [List.length_cons,List.length_nil,List.length_append,Int.toNat_natCast] <;> omega) | fail) only [Nat.reduceLT,Nat.reduceLeDiff,Nat.reduceEqDiff,↓reduceIte,Int.reduceLT,Int.reduceLE,Int.reduceToNat,Int.reduceEq,Int.reduceNe,Nat.reduceAdd,Int.reduceAdd,Int.reduceSub,Int.reduceMul,Nat.reduceMul,Qp0,Qp1,Ql0,Qe0,hn,d1]
    exact ⟨_, PH.Le.refl _, by trivial, rfl⟩
  have d1 := decide_eq_false hl
  have hI := ib2_any (s.drop n) 1 w0 h
  rcases hv with ⟨k, rfl, hk, h1, h2⟩ | ⟨rfl, h2⟩
  · have hk' := (hna k).1 hk
    have hkl := (List.getElem?_eq_some_iff.1 h1).1
    have hix : Lib.indexByte (s.drop n) 1 = ((k - n : Nat) : Int) := index_hit _ _ _ (fun j hj => by
      rw [List.getElem?_drop]; exact h2 (n + j) (by omega) ((hna _).2 (by omega))) (by rw [List.getElem?_drop, show n + (k - n) = k by omega]; exact h1)
    rw [hix] at hI
    have hI := Lib.hid hI
    have d2 : decide ((0 : Int) ≤ ((k - n : Nat) : Int)) = true := decide_eq_true (by omega)
    have e2 : (n : Int) + ((k - n : Nat) : Int) = (k : Int) := by omega
    simp -dsimp -implicitDefEqProofs (disch := first | omega | assumption | (simp only [Option.isSome_some,Qt0]; done) | (simp only [List.length_cons,List.length_nil,List.length_append,Int.toNat_natCast] <;> omega) | fail) only [Nat.reduceLT,Nat.reduceLeDiff,Nat.reduceEqDiff,↓reduceIte,Int.reduceLT,Int.reduceLE,Int.reduceToNat,Int.reduceEq,Int.reduceNe,Nat.reduceAdd,Int.reduceAdd,Int.reduceSub,Int.reduceMul,Nat.reduceMul,Qp0,Qp1,Ql0,Qe0,hn,d1]
    refine hI.out.mono ?_
    rintro v hz ⟨rfl, rfl⟩
    simp -dsimp -implicitDefEqProofs (disch := first | omega | assumption | (simp only [Option.isSome_some,Qt0]; done) | (simp only [List.length_cons,List.length_nil,List.length_append,Int.toNat_natCast] <;> omega) | fail) only [Nat.reduceLT,Nat.reduceLeDiff,Nat.reduceEqDiff,↓reduceIte,Int.reduceLT,Int.reduceLE,Int.reduceToNat,Int.reduceEq,Int.reduceNe,Nat.reduceAdd,Int.reduceAdd,Int.reduceSub,Int.reduceMul,Nat.reduceMul,Qp0,Qp1,Ql0,Qe0,d2,e2]
    exact ⟨_, PH.Le.refl _, by trivial, rfl⟩
  · have hix : Lib.indexByte (s.drop n) 1 = -1 := zGe _ _ (fun j => by
      rw [List.getElem?_drop]; exact h2 (n + j) ((hna _).2 (by omega)))
    rw [hix] at hI
    have hI := Lib.hid hI
    simp -dsimp -implicitDefEqProofs (disch := first | omega | assumption | (simp only [Option.isSome_some,Qt0]; done) | (simp only [List.length_cons,List.length_nil,List.length_append,Int.toNat_natCast] <;> omega) | fail) only [Nat.reduceLT,Nat.reduceLeDiff,Nat.reduceEqDiff,↓reduceIte,Int.reduceLT,Int.reduceLE,Int.reduceToNat,Int.reduceEq,Int.reduceNe,Nat.reduceAdd,Int.reduceAdd,Int.reduceSub,Int.reduceMul,Nat.reduceMul,Qp0,Qp1,Ql0,Qe0,hn,d1]
    refine hI.out.mono ?_
    rintro v hz ⟨rfl, rfl⟩
    simp -dsimp -implicitDefEqProofs (disch := first | omega | assumption | (simp only [Option.isSome_some,Qt0]; done) | (simp only [List.length_cons,List.length_nil,List.length_append,Int.toNat_natCast] <;> omega) | fail) only [Nat.reduceLT,Nat.reduceLeDiff,Nat.reduceEqDiff,↓reduceIte,Int.reduceLT,Int.reduceLE,Int.reduceToNat,Int.reduceEq,Int.reduceNe,Nat.reduceAdd,Int.reduceAdd,Int.reduceSub,Int.reduceMul,Nat.reduceMul,Qp0,Qp1,Ql0,Qe0]
    exact ⟨_, PH.Le.refl _, by trivial, rfl⟩
end Go.Proofs.Ytblikpbaeippaaa


namespace Go.Proofs.Ytblikpbaeippaaa
set_option linter.unusedVariables false
set_option linter.unusedSimpArgs false
open Go.RowKit Px Wr
def ptL (x : Pt) : List Value := [.int .i64 x.k, .int .i64 x.g, .int .i64 x.p, str x.t]
theorem seal_chain {x : Pt} (h : x.Ok) : textM (numM (numM (numM ([], none) x.k) x.g) x.p) x.t = (payload x, none) := by
  have k1 := h.k1
  have g1 := h.g1
  have p1 := h.p1
  have t1 := h.t1
  have l1 := zBg (n := x.k) (by omega)
  have l2 := zBg (n := x.g) (by omega)
  have l3 := zBg (n := x.p) (by omega)
  have l4 := zBg (n := x.t.length) (by omega)
  have e1 : numM ([], none) (x.k : Int) = (numB x.k, none) := by
    unfold numM putM
    rw [if_neg (by simp), if_neg (by omega), if_neg (by simp), Int.toNat_natCast, if_neg (by simp only [List.length_nil]; omega)]
    rfl
  have e2 : numM (numB x.k, none) (x.g : Int) = (numB x.k ++ numB x.g, none) := by
    unfold numM putM
    rw [if_neg (by simp), if_neg (by omega), if_neg (by simp), Int.toNat_natCast, if_neg (by simp only; omega)]
  have e3 : numM (numB x.k ++ numB x.g, none) (x.p : Int) = (numB x.k ++ numB x.g ++ numB x.p, none) := by
    unfold numM putM
    rw [if_neg (by simp), if_neg (by omega), if_neg (by simp), Int.toNat_natCast, if_neg (by simp only [List.length_append]; omega)]
  rw [e1, e2, e3]
  unfold textM putM
  rw [if_neg (by simp), if_neg (by simp only [List.length_append]; omega)]
  simp [payload]
theorem out_zero (h : PH) {ob : Nat} (hob : h.top ≤ ob) : OS h (h.new ob ⟨[.slice none 0 0, .nilIface], 2⟩) ob ([], none) :=
  ⟨(PH.Le.refl h).new _ _ hob, h.gone hob, by simp, none, 0, .nilIface, by rw [PH.new_m, if_pos rfl]; rfl, Own.nil _ 1, (fun a e => by cases e), rfl⟩
set_option maxRecDepth 20000 in
set_option maxHeartbeats 1000000 in
theorem zD0 (x : Pt) (hx : x.Ok) (w0 : World) (h : PH) : PCalls Try.prog w0 49 [.agg (ptL x).toArray] h fun v h' => v = str (sealP x) ∧ PH.Le h h' := by
  refine zAp Try.func49 (by kernel_rfl) rfl _ Try.ntmps49 (by kernel_rfl) (by kernel_rfl) _ Try.results49 ?_
  have k1 := hx.k1
  have g1 := hx.g1
  have p1 := hx.p1
  have t1 := hx.t1
  have hch := seal_chain hx
  unfold ptL
  simp -dsimp -implicitDefEqProofs (disch := first | omega | assumption | (simp only [Option.isSome_some,Qt0]; done) | (simp only [List.length_cons,List.length_nil,List.length_append,Int.toNat_natCast] <;> omega) | fail) only [Nat.reduceLT,Nat.reduceLeDiff,Nat.reduceEqDiff,↓reduceIte,Int.reduceLT,Int.reduceLE,Int.reduceToNat,Int.reduceEq,Int.reduceNe,Nat.reduceAdd,Int.reduceAdd,Int.reduceSub,Int.reduceMul,Nat.reduceMul,Qp0,Qp1,Ql0,Qe0]
  refine fun xb hxb => ?_
  obtain ⟨h1, hh1⟩ : ∃ h1, h.new xb ⟨[.int .i64 x.k, .int .i64 x.g, .int .i64 x.p, str x.t], 4⟩ = h1 := ⟨_, rfl⟩
  have hl1 : PH.Le h h1 := by rw [← hh1]; exact (PH.Le.refl h).new _ _ hxb
  have hm1 : h1.m xb = some ⟨[.int .i64 x.k, .int .i64 x.g, .int .i64 x.p, str x.t], 4⟩ := by rw [← hh1, PH.new_m, if_pos rfl]
  simp -dsimp -implicitDefEqProofs (disch := first | omega | assumption | (simp only [Option.isSome_some,Qt0]; done) | (simp only [List.length_cons,List.length_nil,List.length_append,Int.toNat_natCast] <;> omega) | fail) only [Nat.reduceLT,Nat.reduceLeDiff,Nat.reduceEqDiff,↓reduceIte,Int.reduceLT,Int.reduceLE,Int.reduceToNat,Int.reduceEq,Int.reduceNe,Nat.reduceAdd,Int.reduceAdd,Int.reduceSub,Int.reduceMul,Nat.reduceMul,Qp0,Qp1,Ql0,Qe0,hh1]
  refine fun ob hob => ?_
  have ho := out_zero h1 hob
  simp -dsimp -implicitDefEqProofs (disch := first | omega | assumption | (simp only [Option.isSome_some,Qt0]; done) | (simp only [List.length_cons,List.length_nil,List.length_append,Int.toNat_natCast] <;> omega) | fail) only [Nat.reduceLT,Nat.reduceLeDiff,Nat.reduceEqDiff,↓reduceIte,Int.reduceLT,Int.reduceLE,Int.reduceToNat,Int.reduceEq,Int.reduceNe,Nat.reduceAdd,Int.reduceAdd,Int.reduceSub,Int.reduceMul,Nat.reduceMul,Qp0,Qp1,Ql0,Qe0]
  generalize h1.new ob ⟨[.slice none 0 0, .nilIface], 2⟩ = h2 at *
  have m2 := ho.le.m _ _ hm1
  have c1 := Lib.hid (num_any h1 ob ([], none) w0 h2 ho x.k (by omega))
  simp -dsimp -implicitDefEqProofs (disch := first | omega | assumption | (simp only [Option.isSome_some,Qt0]; done) | (simp only [List.length_cons,List.length_nil,List.length_append,Int.toNat_natCast] <;> omega) | fail) only [Nat.reduceLT,Nat.reduceLeDiff,Nat.reduceEqDiff,↓reduceIte,Int.reduceLT,Int.reduceLE,Int.reduceToNat,Int.reduceEq,Int.reduceNe,Nat.reduceAdd,Int.reduceAdd,Int.reduceSub,Int.reduceMul,Nat.reduceMul,Qp0,Qp1,Ql0,Qe0,zAa,zAb,m2]
  refine c1.out.mono ?_
  intro v h3 ho
  have m3 := ho.le.m _ _ hm1
  have c2 := Lib.hid (num_any h1 ob _ w0 h3 ho x.g (by omega))
  simp -dsimp -implicitDefEqProofs (disch := first | omega | assumption | (simp only [Option.isSome_some,Qt0]; done) | (simp only [List.length_cons,List.length_nil,List.length_append,Int.toNat_natCast] <;> omega) | fail) only [Nat.reduceLT,Nat.reduceLeDiff,Nat.reduceEqDiff,↓reduceIte,Int.reduceLT,Int.reduceLE,Int.reduceToNat,Int.reduceEq,Int.reduceNe,Nat.reduceAdd,Int.reduceAdd,Int.reduceSub,Int.reduceMul,Nat.reduceMul,Qp0,Qp1,Ql0,Qe0,zAa,zAb,m3]
  refine c2.out.mono ?_
  intro v h4 ho
  have m4 := ho.le.m _ _ hm1
  have c3 := Lib.hid (num_any h1 ob _ w0 h4 ho x.p (by omega))
  simp -dsimp -implicitDefEqProofs (disch := first | omega | assumption | (simp only [Option.isSome_some,Qt0]; done) | (simp only [List.length_cons,List.length_nil,List.length_append,Int.toNat_natCast] <;> omega) | fail) only [Nat.reduceLT,Nat.reduceLeDiff,Nat.reduceEqDiff,↓reduceIte,Int.reduceLT,Int.reduceLE,Int.reduceToNat,Int.reduceEq,Int.reduceNe,Nat.reduceAdd,Int.reduceAdd,Int.reduceSub,Int.reduceMul,Nat.reduceMul,Qp0,Qp1,Ql0,Qe0,zAa,zAb,m4]
  refine c3.out.mono ?_
  intro v h5 ho
  have m5 := ho.le.m _ _ hm1
  have c4 := Lib.hid (wtext_any h1 ob _ w0 h5 ho x.t (by omega))
  simp -dsimp -implicitDefEqProofs (disch := first | omega | assumption | (simp only [Option.isSome_some,Qt0]; done) | (simp only [List.length_cons,List.length_nil,List.length_append,Int.toNat_natCast] <;> omega) | fail) only [Nat.reduceLT,Nat.reduceLeDiff,Nat.reduceEqDiff,↓reduceIte,Int.reduceLT,Int.reduceLE,Int.reduceToNat,Int.reduceEq,Int.reduceNe,Nat.reduceAdd,Int.reduceAdd,Int.reduceSub,Int.reduceMul,Nat.reduceMul,Qp0,Qp1,Ql0,Qe0,zAa,zAb,m5]
  refine c4.out.mono ?_
  intro v h6 ho
  rw [hch] at ho
  have c5 := Lib.hid (done_any h1 ob _ w0 h6 ho)
  simp -dsimp -implicitDefEqProofs (disch := first | omega | assumption | (simp only [Option.isSome_some,Qt0]; done) | (simp only [List.length_cons,List.length_nil,List.length_append,Int.toNat_natCast] <;> omega) | fail) only [Nat.reduceLT,Nat.reduceLeDiff,Nat.reduceEqDiff,↓reduceIte,Int.reduceLT,Int.reduceLE,Int.reduceToNat,Int.reduceEq,Int.reduceNe,Nat.reduceAdd,Int.reduceAdd,Int.reduceSub,Int.reduceMul,Nat.reduceMul,Qp0,Qp1,Ql0,Qe0]
  refine c5.out.mono ?_
  rintro v q ⟨hde, hz⟩
  obtain rfl := hz.symm
  obtain rfl : v = .tuple #[str (payload x), .nilIface] := hde
  have c6 := Lib.hid (seal_ok (payload x) (by have := zE6 hx; omega) w0 h6)
  simp -dsimp -implicitDefEqProofs (disch := first | omega | assumption | (simp only [Option.isSome_some,Qt0]; done) | (simp only [List.length_cons,List.length_nil,List.length_append,Int.toNat_natCast] <;> omega) | fail) only [Nat.reduceLT,Nat.reduceLeDiff,Nat.reduceEqDiff,↓reduceIte,Int.reduceLT,Int.reduceLE,Int.reduceToNat,Int.reduceEq,Int.reduceNe,Nat.reduceAdd,Int.reduceAdd,Int.reduceSub,Int.reduceMul,Nat.reduceMul,Qp0,Qp1,Ql0,Qe0]
  refine c6.out.mono ?_
  rintro v hq ⟨rfl, hz⟩
  obtain rfl := hz.symm
  simp -dsimp -implicitDefEqProofs (disch := first | omega | assumption | (simp only [Option.isSome_some,Qt0]; done) | (simp only [List.length_cons,List.length_nil,List.length_append,Int.toNat_natCast] <;> omega) | fail) only [Nat.reduceLT,Nat.reduceLeDiff,Nat.reduceEqDiff,↓reduceIte,Int.reduceLT,Int.reduceLE,Int.reduceToNat,Int.reduceEq,Int.reduceNe,Nat.reduceAdd,Int.reduceAdd,Int.reduceSub,Int.reduceMul,Nat.reduceMul,Qp0,Qp1,Ql0,Qe0]
  exact ⟨_, PH.Le.refl _, rfl, hl1.trans ho.le⟩
theorem zA5 : (Value.string ⟨#[]⟩) = str [] := rfl
theorem zA6 {f : Fr} (k : Value → Prop) : vev f (.const (str [])) k = k (str []) := rfl
theorem one4 (a b c : Int) (t : List UInt8) : allOne [.int .i64 a, .int .i64 b, .int .i64 c, str t] := fun v hv => by
  simp only [List.mem_cons, List.not_mem_nil, or_false] at hv
  rcases hv with rfl | rfl | rfl | rfl <;> rfl
def JO (s : List UInt8) (a : Nat) (v : Value) : Prop := match partAt s a with
  | some (x, n) => v = .tuple #[.agg (ptL x).toArray, .int .i64 n, .bool true]
  | none => v = .tuple #[.agg #[.int .i64 0, .int .i64 0, .int .i64 0, str []], .int .i64 a, .bool false]
theorem EE_no {h : PH} {n : Nat} {st : St} {v : Value} (e : EE h n st v) : (stDone st = true ∧ v = .nilIface) ∨ (stDone st = false ∧ ∃ be, v = errV be) := by
  cases st with
  | ok t => cases t with
    | nil => exact .inl ⟨rfl, e⟩
    | cons a t => obtain ⟨be, h1, _⟩ := e; exact .inr ⟨rfl, be, h1⟩
  | bad p => obtain ⟨be, h1, _⟩ := e; exact .inr ⟨rfl, be, h1⟩
section
variable {P : Program} {w0 : World} {f : Fr} {h : PH}
theorem zCt (R : Value → PH → Prop) (t u x y : Nat) : vcRet P w0 [.cell t u, .tmp x, .tmp y] R ⟨⟩ .ret f h = (oget (f t) fun v => vcPtr v fun a => vload P w0 h u a fun r => oget (f x) fun p => oget (f y) fun q => R (.tuple #[r, p, q]) h) := rfl
theorem zCk (R : Value → PH → Prop) (t u x y : Nat) : vcRet P w0 [.cell t u, .tmp x, .tmp y] R ⟨⟩ .normal f h = (oget (f t) fun v => vcPtr v fun a => vload P w0 h u a fun r => oget (f x) fun p => oget (f y) fun q => R (.tuple #[r, p, q]) h) := rfl
end
theorem IS_putJ {h : PH} {ib wb : Nat} {s : List UInt8} {st : St} {kk : Bk} (hi : IS h ib s st) (hw : h.m wb = some kk) (hk : kk.lim ≠ 3) (k : Bk) : IS (h.new wb k) ib s st := by
  have hne : ∀ y l, h.m y = some ⟨l, 3⟩ → y ≠ wb := fun y l e e' => by
    rw [e', hw] at e
    injection e with e
    rw [e] at hk
    exact hk rfl
  cases st with
  | ok t => obtain ⟨a, h1, h2, h3⟩ := hi; exact ⟨a, h1, h2, by rw [PH.new_m, if_neg (hne _ _ h3)]; exact h3⟩
  | bad p => obtain ⟨a, be, h1, h2, h3, h4⟩ := hi; exact ⟨a, be, h1, h2, by rw [PH.new_m, if_neg (hne _ _ h3)]; exact h3, by rw [PH.new_m, if_neg (hne _ _ h4)]; exact h4⟩
theorem IS.lt {h : PH} {ib : Nat} {s : List UInt8} {st : St} (hi : IS h ib s st) : ib < h.top := by
  cases st with
  | ok t => obtain ⟨a, h1, h2, h3⟩ := hi; exact h.lt _ _ h3
  | bad p => obtain ⟨a, be, h1, h2, h3, h4⟩ := hi; exact h.lt _ _ h3
theorem JO_some {s : List UInt8} {a : Nat} {x : Pt} {n : Nat} (h : partAt s a = some (x, n)) : JO s a (.tuple #[.agg (ptL x).toArray, .int .i64 n, .bool true]) := by unfold JO; rw [h]
theorem zDf {s : List UInt8} {a : Nat} (h : partAt s a = none) : JO s a (.tuple #[.agg #[.int .i64 0, .int .i64 0, .int .i64 0, str []], .int .i64 a, .bool false]) := by unfold JO; rw [h]
theorem IS.chg {ib : Nat} {h h' : PH} {s : List UInt8} {st : St} (b : Nat) (k : Bk) (hb : h.top ≤ b) (i : IS h ib s st) : IS (h.new b k) ib s st := i.more ((PH.Le.refl h).new _ _ hb)
set_option maxRecDepth 20000 in
set_option maxHeartbeats 2000000 in
theorem jopen_any (s : List UInt8) (a : Nat) (hs : s.length ≤ 2000000) (w0 : World) (h : PH) : PCalls Try.prog w0 46 [str s, .int .i64 a] h fun v h' => JO s a v ∧ PH.Le h h' := by
  refine zAp Try.func46 (by kernel_rfl) rfl _ Try.ntmps46 (by kernel_rfl) (by kernel_rfl) _ Try.results46 ?_
  have hO := Open_any s a (by omega) w0
  simp -dsimp -implicitDefEqProofs (disch := first | omega | assumption | (simp only [Option.isSome_some,Qt0]; done) | (simp only [List.length_cons,List.length_nil,List.length_append,Int.toNat_natCast] <;> omega) | fail) only [Nat.reduceLT,Nat.reduceLeDiff,Nat.reduceEqDiff,↓reduceIte,Int.reduceLT,Int.reduceLE,Int.reduceToNat,Int.reduceEq,Int.reduceNe,Nat.reduceAdd,Int.reduceAdd,Int.reduceSub,Int.reduceMul,Nat.reduceMul,Qp0,Qp1,Ql0,Qe0]
  refine fun rb hrb => ?_
  obtain ⟨h1, hh1⟩ : ∃ h1, h.new rb ⟨[.int .i64 0, .int .i64 0, .int .i64 0, str []], 4⟩ = h1 := ⟨_, rfl⟩
  have hl1 : PH.Le h h1 := by rw [← hh1]; exact (PH.Le.refl h).new _ _ hrb
  have hm1 : h1.m rb = some ⟨[.int .i64 0, .int .i64 0, .int .i64 0, str []], 4⟩ := by rw [← hh1, PH.new_m, if_pos rfl]
  have hO1 := hO h1
  have fresh : ∀ {q : PH} (k : Bk), PH.Le h1 q → PH.Le h (q.new rb k) := fun k l => ⟨by have := hl1.top; have := l.top; simp only [PH.new_top]; omega, fun x kx e => by
    have := h.lt _ _ e
    rw [PH.new_m, if_neg (by have := hrb; omega)]
    exact l.m _ _ (hl1.m _ _ e)⟩
  have hrd : ∀ q : PH, q.m rb = some ⟨[.int .i64 0, .int .i64 0, .int .i64 0, str []], 4⟩ → rdN w0 q ⟨rb, 0, none⟩ 4 = some [.int .i64 0, .int .i64 0, .int .i64 0, str []] := fun q e => by unfold rdN; simp only [e]; rfl
  cases ho : openO s (a : Int) with
  | none =>
    rw [ho] at hO1
    have hO1 := Lib.hid hO1
    simp -dsimp -implicitDefEqProofs (disch := first | omega | assumption | (simp only [Option.isSome_some,Qt0]; done) | (simp only [List.length_cons,List.length_nil,List.length_append,Int.toNat_natCast] <;> omega) | fail) only [Nat.reduceLT,Nat.reduceLeDiff,Nat.reduceEqDiff,↓reduceIte,Int.reduceLT,Int.reduceLE,Int.reduceToNat,Int.reduceEq,Int.reduceNe,Nat.reduceAdd,Int.reduceAdd,Int.reduceSub,Int.reduceMul,Nat.reduceMul,Qp0,Qp1,Ql0,Qe0,zA5,zA6,hh1]
    refine hO1.out.mono ?_
    rintro v h2 ⟨be, rfl, hbe, rfl⟩
    have hl2 := (PH.Le.refl h1).new be ⟨[str frameT, .int .i64 a, codeV (if (a : Int) = s.length then 7 else 2)], 3⟩ hbe
    have hm2 := hl2.m _ _ hm1
    generalize h1.new be ⟨[str frameT, .int .i64 a, codeV (if (a : Int) = s.length then 7 else 2)], 3⟩ = h2 at *
    unfold errV
    have ha := one4 0 0 0 []
    have hr2 := hrd h2 hm2
    simp -dsimp -implicitDefEqProofs (disch := first | omega | assumption | (simp only [Option.isSome_some,Qt0]; done) | (simp only [List.length_cons,List.length_nil,List.length_append,Int.toNat_natCast] <;> omega) | fail) only [Nat.reduceLT,Nat.reduceLeDiff,Nat.reduceEqDiff,↓reduceIte,Int.reduceLT,Int.reduceLE,Int.reduceToNat,Int.reduceEq,Int.reduceNe,Nat.reduceAdd,Int.reduceAdd,Int.reduceSub,Int.reduceMul,Nat.reduceMul,Qp0,Qp1,Ql0,Qe0,zA5,zA6,zAa,zAb,hm2,List.set_cons_zero,List.set_cons_succ,List.take_zero,List.drop_succ_cons,List.drop_zero,List.drop_nil,List.nil_append,List.append_nil,List.take_succ_cons,ite_true,PH.new_new,PH.new_same hm2,zCt,zCk,hr2]
    exact ⟨_, PH.Le.refl _, zDf (by unfold partAt; rw [ho]), hl1.trans hl2⟩
  | some q =>
    obtain ⟨t, n⟩ := q
    rw [ho] at hO1
    have hO1 := Lib.hid hO1
    have htl : t.length ≤ 8192 := by
      unfold openO at ho
      split at ho
      · exact (Fm.open_some _ _ _ _ ho).1
      · cases ho
    have hW := Lib.hid (read_any w0 h1 t)
    simp -dsimp -implicitDefEqProofs (disch := first | omega | assumption | (simp only [Option.isSome_some,Qt0]; done) | (simp only [List.length_cons,List.length_nil,List.length_append,Int.toNat_natCast] <;> omega) | fail) only [Nat.reduceLT,Nat.reduceLeDiff,Nat.reduceEqDiff,↓reduceIte,Int.reduceLT,Int.reduceLE,Int.reduceToNat,Int.reduceEq,Int.reduceNe,Nat.reduceAdd,Int.reduceAdd,Int.reduceSub,Int.reduceMul,Nat.reduceMul,Qp0,Qp1,Ql0,Qe0,zA5,zA6,hh1]
    refine hO1.out.mono ?_
    rintro v q ⟨rfl, hz⟩
    obtain rfl := hz.symm
    simp -dsimp -implicitDefEqProofs (disch := first | omega | assumption | (simp only [Option.isSome_some,Qt0]; done) | (simp only [List.length_cons,List.length_nil,List.length_append,Int.toNat_natCast] <;> omega) | fail) only [Nat.reduceLT,Nat.reduceLeDiff,Nat.reduceEqDiff,↓reduceIte,Int.reduceLT,Int.reduceLE,Int.reduceToNat,Int.reduceEq,Int.reduceNe,Nat.reduceAdd,Int.reduceAdd,Int.reduceSub,Int.reduceMul,Nat.reduceMul,Qp0,Qp1,Ql0,Qe0,zA5,zA6]
    refine hW.out.mono ?_
    rintro v h2 ⟨ib, rfl, hib, hl2, hi0⟩
    rcases ea : numS 4 t.length (.ok t) with ⟨ka, sa⟩
    rcases eb : numS 1099511627776 t.length sa with ⟨kb, sb⟩
    rcases ec : numS 1099511627776 t.length sb with ⟨kc, sc⟩
    rcases ed : txtS 4096 t.length sc with ⟨kd, sd⟩
    have hP : partAt s a = (if stDone sd = true ∧ 1 ≤ ka ∧ 1 ≤ kb ∧ (ka = 2 ∨ kd = []) then some (⟨ka, kb, kc, kd⟩ : Pt) else none).map fun x => (x, n) := by
      unfold partAt partP
      rw [ho]
      simp only
      rw [ea]
      simp only
      rw [eb]
      simp only
      rw [ec]
      simp only
      rw [ed]
    have c1 := zEf w0 h2 ib t (by omega) 4 (.ok t) hi0
    rw [ea] at c1
    have c1 := Lib.hid c1
    simp -dsimp -implicitDefEqProofs (disch := first | omega | assumption | (simp only [Option.isSome_some,Qt0]; done) | (simp only [List.length_cons,List.length_nil,List.length_append,Int.toNat_natCast] <;> omega) | fail) only [Nat.reduceLT,Nat.reduceLeDiff,Nat.reduceEqDiff,↓reduceIte,Int.reduceLT,Int.reduceLE,Int.reduceToNat,Int.reduceEq,Int.reduceNe,Nat.reduceAdd,Int.reduceAdd,Int.reduceSub,Int.reduceMul,Nat.reduceMul,Qp0,Qp1,Ql0,Qe0,zA5,zA6]
    refine c1.out.mono ?_
    rintro v h3 ⟨rfl, hi1, hc1⟩
    have c2 := zEf w0 h3 ib t (by omega) 1099511627776 sa hi1
    rw [eb] at c2
    have c2 := Lib.hid c2
    simp -dsimp -implicitDefEqProofs (disch := first | omega | assumption | (simp only [Option.isSome_some,Qt0]; done) | (simp only [List.length_cons,List.length_nil,List.length_append,Int.toNat_natCast] <;> omega) | fail) only [Nat.reduceLT,Nat.reduceLeDiff,Nat.reduceEqDiff,↓reduceIte,Int.reduceLT,Int.reduceLE,Int.reduceToNat,Int.reduceEq,Int.reduceNe,Nat.reduceAdd,Int.reduceAdd,Int.reduceSub,Int.reduceMul,Nat.reduceMul,Qp0,Qp1,Ql0,Qe0,zA5,zA6]
    refine c2.out.mono ?_
    rintro v h4 ⟨rfl, hi2, hc2⟩
    have c3 := zEf w0 h4 ib t (by omega) 1099511627776 sb hi2
    rw [ec] at c3
    have c3 := Lib.hid c3
    simp -dsimp -implicitDefEqProofs (disch := first | omega | assumption | (simp only [Option.isSome_some,Qt0]; done) | (simp only [List.length_cons,List.length_nil,List.length_append,Int.toNat_natCast] <;> omega) | fail) only [Nat.reduceLT,Nat.reduceLeDiff,Nat.reduceEqDiff,↓reduceIte,Int.reduceLT,Int.reduceLE,Int.reduceToNat,Int.reduceEq,Int.reduceNe,Nat.reduceAdd,Int.reduceAdd,Int.reduceSub,Int.reduceMul,Nat.reduceMul,Qp0,Qp1,Ql0,Qe0,zA5,zA6]
    refine c3.out.mono ?_
    rintro v h5 ⟨rfl, hi3, hc3⟩
    have ha := one4 ka kb kc []
    simp -dsimp -implicitDefEqProofs (disch := first | omega | assumption | (simp only [Option.isSome_some,Qt0]; done) | (simp only [List.length_cons,List.length_nil,List.length_append,Int.toNat_natCast] <;> omega) | fail) only [Nat.reduceLT,Nat.reduceLeDiff,Nat.reduceEqDiff,↓reduceIte,Int.reduceLT,Int.reduceLE,Int.reduceToNat,Int.reduceEq,Int.reduceNe,Nat.reduceAdd,Int.reduceAdd,Int.reduceSub,Int.reduceMul,Nat.reduceMul,Qp0,Qp1,Ql0,Qe0,zA5,zA6]
    refine fun pb hpb => ?_
    have hpb' : h5.top ≤ pb := hpb
    have hib5 : ib < h5.top := by
      have t2 := hc1.top; have t3 := hc2.top; have t4 := hc3.top
      have := hi0.lt
      omega
    obtain ⟨h6, hh6⟩ : ∃ h6, h5.new pb ⟨[.int .i64 ka, .int .i64 kb, .int .i64 kc, str []], 4⟩ = h6 := ⟨_, rfl⟩
    have hl6 : PH.Le h5 h6 := by rw [← hh6]; exact (PH.Le.refl h5).new _ _ hpb'
    have hm6 : h6.m pb = some ⟨[.int .i64 ka, .int .i64 kb, .int .i64 kc, str []], 4⟩ := by rw [← hh6, PH.new_m, if_pos rfl]
    have c4 := itext_any w0 h6 ib t (by omega) 4096 sc (hi3.more hl6)
    rw [ed] at c4
    have c4 := Lib.hid c4
    simp -dsimp -implicitDefEqProofs (disch := first | omega | assumption | (simp only [Option.isSome_some,Qt0]; done) | (simp only [List.length_cons,List.length_nil,List.length_append,Int.toNat_natCast] <;> omega) | fail) only [Nat.reduceLT,Nat.reduceLeDiff,Nat.reduceEqDiff,↓reduceIte,Int.reduceLT,Int.reduceLE,Int.reduceToNat,Int.reduceEq,Int.reduceNe,Nat.reduceAdd,Int.reduceAdd,Int.reduceSub,Int.reduceMul,Nat.reduceMul,Qp0,Qp1,Ql0,Qe0,zA5,zA6,List.set_cons_zero,List.set_cons_succ,List.take_zero,List.drop_succ_cons,List.drop_zero,List.drop_nil,List.nil_append,List.append_nil,List.take_succ_cons,ite_true,PH.new_new,hh6]
    refine c4.out.mono ?_
    rintro v h7 ⟨rfl, hi4, hc4⟩
    have hm7 := hc4.m _ _ hm6 (by omega)
    have hch : Chg (fun x => x = ib ∨ x = pb) h1 h7 := ((((Chg.le hl2).trans (hc1.mono fun x _ e => .inl e)).trans (hc2.mono fun x _ e => .inl e)).trans (hc3.mono fun x _ e => .inl e)).trans ((Chg.le hl6).trans (hc4.mono fun x _ e => .inl e))
    simp -dsimp -implicitDefEqProofs (disch := first | omega | assumption | (simp only [Option.isSome_some,Qt0]; done) | (simp only [List.length_cons,List.length_nil,List.length_append,Int.toNat_natCast] <;> omega) | fail) only [Nat.reduceLT,Nat.reduceLeDiff,Nat.reduceEqDiff,↓reduceIte,Int.reduceLT,Int.reduceLE,Int.reduceToNat,Int.reduceEq,Int.reduceNe,Nat.reduceAdd,Int.reduceAdd,Int.reduceSub,Int.reduceMul,Nat.reduceMul,Qp0,Qp1,Ql0,Qe0,zA5,zA6,zAa,zAb,hm7,List.set_cons_zero,List.set_cons_succ,List.take_zero,List.drop_succ_cons,List.drop_zero,List.drop_nil,List.nil_append,List.append_nil,List.take_succ_cons,ite_true,PH.new_new]
    obtain ⟨h8, hh8⟩ : ∃ h8, h7.new pb ⟨[.int .i64 ka, .int .i64 kb, .int .i64 kc, str kd], 4⟩ = h8 := ⟨_, rfl⟩
    have hm8 : h8.m pb = some ⟨[.int .i64 ka, .int .i64 kb, .int .i64 kc, str kd], 4⟩ := by rw [← hh8, PH.new_m, if_pos rfl]
    have hi5 : IS h8 ib t sd := by rw [← hh8]; exact IS_putJ hi4 hm7 (show (4 : Nat) ≠ 3 by decide) _
    have hc8 : Chg (fun x => x = ib ∨ x = pb) h1 h8 := by rw [← hh8]; exact hch.put (.inr rfl) _
    have c5 := Lib.hid (end_any w0 h8 ib t sd hi5)
    simp -dsimp -implicitDefEqProofs (disch := first | omega | assumption | (simp only [Option.isSome_some,Qt0]; done) | (simp only [List.length_cons,List.length_nil,List.length_append,Int.toNat_natCast] <;> omega) | fail) only [Nat.reduceLT,Nat.reduceLeDiff,Nat.reduceEqDiff,↓reduceIte,Int.reduceLT,Int.reduceLE,Int.reduceToNat,Int.reduceEq,Int.reduceNe,Nat.reduceAdd,Int.reduceAdd,Int.reduceSub,Int.reduceMul,Nat.reduceMul,Qp0,Qp1,Ql0,Qe0,zA5,zA6,hh8]
    refine c5.out.mono ?_
    rintro v h9 ⟨hee, hl9⟩
    have hm9 := hl9.m _ _ hm8
    have hl19 : PH.Le h1 h9 := (hc8.toLe fun x hx => by
      rcases hx with rfl | rfl
      · exact hib
      · have t1 := hl2.top; have t2 := hc1.top; have t3 := hc2.top; have t4 := hc3.top; omega).trans hl9
    have hr9 := hl19.m _ _ hm1
    have hrz := hrd h9 hr9
    have hz4 := one4 0 0 0 []
    have hp4 := one4 ka kb kc kd
    have hfin := hl1.trans hl19
    have no : (¬ (stDone sd = true ∧ 1 ≤ ka ∧ 1 ≤ kb ∧ (ka = 2 ∨ kd = []))) → partAt s a = none := fun q => by rw [hP, if_neg q]; rfl
    rcases EE_no hee with ⟨e1, rfl⟩ | ⟨e1, be, rfl⟩
    rotate_left
    · have hno := no (by rw [e1]; simp)
      unfold errV
      simp -dsimp -implicitDefEqProofs (disch := first | omega | assumption | (simp only [Option.isSome_some,Qt0]; done) | (simp only [List.length_cons,List.length_nil,List.length_append,Int.toNat_natCast] <;> omega) | fail) only [Nat.reduceLT,Nat.reduceLeDiff,Nat.reduceEqDiff,↓reduceIte,Int.reduceLT,Int.reduceLE,Int.reduceToNat,Int.reduceEq,Int.reduceNe,Nat.reduceAdd,Int.reduceAdd,Int.reduceSub,Int.reduceMul,Nat.reduceMul,Qp0,Qp1,Ql0,Qe0,zA5,zA6,zAa,zAb,hm9,hr9,List.set_cons_zero,List.set_cons_succ,List.take_zero,List.drop_succ_cons,List.drop_zero,List.drop_nil,List.nil_append,List.append_nil,List.take_succ_cons,ite_true,PH.new_new,PH.new_same hr9,zCt,zCk,hrz]
      exact ⟨_, PH.Le.refl _, zDf hno, hfin⟩
    by_cases q1 : ka < 1
    · have d1 : decide ((ka : Int) < 1) = true := decide_eq_true (by omega)
      have hno := no (fun q => by omega)
      simp -dsimp -implicitDefEqProofs (disch := first | omega | assumption | (simp only [Option.isSome_some,Qt0]; done) | (simp only [List.length_cons,List.length_nil,List.length_append,Int.toNat_natCast] <;> omega) | fail) only [Nat.reduceLT,Nat.reduceLeDiff,Nat.reduceEqDiff,↓reduceIte,Int.reduceLT,Int.reduceLE,Int.reduceToNat,Int.reduceEq,Int.reduceNe,Nat.reduceAdd,Int.reduceAdd,Int.reduceSub,Int.reduceMul,Nat.reduceMul,Qp0,Qp1,Ql0,Qe0,zA5,zA6,zAa,zAb,hm9,hr9,d1,List.set_cons_zero,List.set_cons_succ,List.take_zero,List.drop_succ_cons,List.drop_zero,List.drop_nil,List.nil_append,List.append_nil,List.take_succ_cons,ite_true,PH.new_new,PH.new_same hr9,zCt,zCk,hrz]
      exact ⟨_, PH.Le.refl _, zDf hno, hfin⟩
    have d1 : decide ((ka : Int) < 1) = false := decide_eq_false (by omega)
    by_cases q2 : kb < 1
    · have d2 : decide ((kb : Int) < 1) = true := decide_eq_true (by omega)
      have hno := no (fun q => by omega)
      simp -dsimp -implicitDefEqProofs (disch := first | omega | assumption | (simp only [Option.isSome_some,Qt0]; done) | (simp only [List.length_cons,List.length_nil,List.length_append,Int.toNat_natCast] <;> omega) | fail) only [Nat.reduceLT,Nat.reduceLeDiff,Nat.reduceEqDiff,↓reduceIte,Int.reduceLT,Int.reduceLE,Int.reduceToNat,Int.reduceEq,Int.reduceNe,Nat.reduceAdd,Int.reduceAdd,Int.reduceSub,Int.reduceMul,Nat.reduceMul,Qp0,Qp1,Ql0,Qe0,zA5,zA6,zAa,zAb,hm9,hr9,d1,d2,List.set_cons_zero,List.set_cons_succ,List.take_zero,List.drop_succ_cons,List.drop_zero,List.drop_nil,List.nil_append,List.append_nil,List.take_succ_cons,ite_true,PH.new_new,PH.new_same hr9,zCt,zCk,hrz]
      exact ⟨_, PH.Le.refl _, zDf hno, hfin⟩
    have d2 : decide ((kb : Int) < 1) = false := decide_eq_false (by omega)
    have yes : (ka = 2 ∨ kd = []) → partAt s a = some (⟨ka, kb, kc, kd⟩, n) := fun q => by rw [hP, if_pos ⟨e1, by omega, by omega, q⟩]; rfl
    obtain ⟨hA, hhA⟩ : ∃ hA, h9.new rb ⟨[.int .i64 ka, .int .i64 kb, .int .i64 kc, str kd], 4⟩ = hA := ⟨_, rfl⟩
    have hmA : hA.m rb = some ⟨[.int .i64 ka, .int .i64 kb, .int .i64 kc, str kd], 4⟩ := by rw [← hhA, PH.new_m, if_pos rfl]
    have hrA : rdN w0 hA ⟨rb, 0, none⟩ 4 = some [.int .i64 ka, .int .i64 kb, .int .i64 kc, str kd] := by unfold rdN; simp only [hmA]; rfl
    have hrp : rdN w0 h9 ⟨pb, 0, none⟩ 4 = some [.int .i64 ka, .int .i64 kb, .int .i64 kc, str kd] := by unfold rdN; simp only [hm9]; rfl
    have hlA : PH.Le h hA := by rw [← hhA]; exact fresh _ hl19
    by_cases q3 : ka = 2
    · have d3 : decide (¬ (ka : Int) = 2) = false := decide_eq_false (by omega)
      simp -dsimp -implicitDefEqProofs (disch := first | omega | assumption | (simp only [Option.isSome_some,Qt0]; done) | (simp only [List.length_cons,List.length_nil,List.length_append,Int.toNat_natCast] <;> omega) | fail) only [Nat.reduceLT,Nat.reduceLeDiff,Nat.reduceEqDiff,↓reduceIte,Int.reduceLT,Int.reduceLE,Int.reduceToNat,Int.reduceEq,Int.reduceNe,Nat.reduceAdd,Int.reduceAdd,Int.reduceSub,Int.reduceMul,Nat.reduceMul,Qp0,Qp1,Ql0,Qe0,zA5,zA6,zAa,zAb,hm9,hr9,d1,d2,d3,List.set_cons_zero,List.set_cons_succ,List.take_zero,List.drop_succ_cons,List.drop_zero,List.drop_nil,List.nil_append,List.append_nil,List.take_succ_cons,ite_true,PH.new_new,zCt,zCk,hrp,hhA,hrA]
      exact ⟨_, PH.Le.refl _, JO_some (yes (.inl q3)), hlA⟩
    have d3 : decide (¬ (ka : Int) = 2) = true := decide_eq_true (by omega)
    by_cases q4 : kd = []
    · subst q4
      have d4 : decide (¬ ([] : List UInt8) = []) = false := decide_eq_false (by simp)
      simp -dsimp -implicitDefEqProofs (disch := first | omega | assumption | (simp only [Option.isSome_some,Qt0]; done) | (simp only [List.length_cons,List.length_nil,List.length_append,Int.toNat_natCast] <;> omega) | fail) only [Nat.reduceLT,Nat.reduceLeDiff,Nat.reduceEqDiff,↓reduceIte,Int.reduceLT,Int.reduceLE,Int.reduceToNat,Int.reduceEq,Int.reduceNe,Nat.reduceAdd,Int.reduceAdd,Int.reduceSub,Int.reduceMul,Nat.reduceMul,Qp0,Qp1,Ql0,Qe0,zA5,zA6,zAa,zAb,hm9,hr9,d1,d2,d3,d4,List.set_cons_zero,List.set_cons_succ,List.take_zero,List.drop_succ_cons,List.drop_zero,List.drop_nil,List.nil_append,List.append_nil,List.take_succ_cons,ite_true,PH.new_new,zCt,zCk,hrp,hhA,hrA]
      exact ⟨_, PH.Le.refl _, JO_some (yes (.inr rfl)), hlA⟩
    · have d4 : decide (¬ kd = []) = true := decide_eq_true q4
      have hno := no (fun q => q.2.2.2.elim q3 q4)
      simp -dsimp -implicitDefEqProofs (disch := first | omega | assumption | (simp only [Option.isSome_some,Qt0]; done) | (simp only [List.length_cons,List.length_nil,List.length_append,Int.toNat_natCast] <;> omega) | fail) only [Nat.reduceLT,Nat.reduceLeDiff,Nat.reduceEqDiff,↓reduceIte,Int.reduceLT,Int.reduceLE,Int.reduceToNat,Int.reduceEq,Int.reduceNe,Nat.reduceAdd,Int.reduceAdd,Int.reduceSub,Int.reduceMul,Nat.reduceMul,Qp0,Qp1,Ql0,Qe0,zA5,zA6,zAa,zAb,hm9,hr9,d1,d2,d3,d4,List.set_cons_zero,List.set_cons_succ,List.take_zero,List.drop_succ_cons,List.drop_zero,List.drop_nil,List.nil_append,List.append_nil,List.take_succ_cons,ite_true,PH.new_new,PH.new_same hr9,zCt,zCk,hrz]
      exact ⟨_, PH.Le.refl _, zDf hno, hfin⟩
end Go.Proofs.Ytblikpbaeippaaa


namespace Go.Proofs.Ytblikpbaeippaaa.Px
set_option linter.unusedVariables false
set_option linter.unusedSimpArgs false
open Go.RowKit
theorem zCb {P : Program} {w0 : World} {g : FuncId} {args : List Value} {h : PH} {R : Value → PH → Prop} (hc : ∀ q : PH, PH.Le h q → Low w0 q → w0.heap.size ≤ q.top → PCalls P w0 g args q R) : PCalls P w0 g args h R := fun w s => by
  have hq : PH.Le h ⟨max h.top w0.heap.size, h.m, fun b k e => by have := h.lt b k e; omega⟩ := ⟨by simp only; omega, fun _ _ e => e⟩
  have sq : Sim w0 ⟨max h.top w0.heap.size, h.m, fun b k e => by have := h.lt b k e; omega⟩ w := ⟨s.below, by have := s.top; have := s.base; simp only; omega, s.sat⟩
  exact hc _ hq (zBy sq) (by simp only; omega) w sq
theorem PCalls.low {P : Program} {w0 : World} {g : FuncId} {args : List Value} {h : PH} {R : Value → PH → Prop} (hc : PCalls P w0 g args h R) : PCalls P w0 g args h fun v h' => R v h' ∧ Low w0 h' := fun w s => by
  rcases hc w s with ⟨h1, h2⟩ | ⟨v, w', h', h1, h2, h3⟩
  · exact .inl ⟨h1, h2.mono fun e w' ⟨v, h', e1, e2, e3⟩ => ⟨v, h', e1, ⟨e2, zBy e3⟩, e3⟩⟩
  · exact .inr ⟨v, w', h', h1, ⟨h2, zBy h3⟩, h3⟩
theorem Low.new {w0 : World} {h : PH} (l : Low w0 h) {b : Nat} (hb : w0.heap.size ≤ b) (k : Bk) : Low w0 (h.new b k) := fun x hx => by
  rw [PH.new_m, if_neg (by omega)]; exact l x hx
end Go.Proofs.Ytblikpbaeippaaa.Px

