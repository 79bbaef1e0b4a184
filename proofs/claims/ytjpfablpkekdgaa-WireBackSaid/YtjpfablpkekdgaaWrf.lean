/- What is read as claims: the plain law. No condition. -/
import Derived.Test.YtjpfablpkekdgaaWre
namespace Go.Proofs.Ytjpfablpkekdgaa
set_option linter.unusedVariables false
set_option linter.unusedSimpArgs false
open Go.RowKit Px Wr
theorem step_back {α : Type} {p : List UInt8 → Option (α × List UInt8)} {z a : α} {n : Nat} {st : St} {u : List UInt8} (h : st.step p z n = (a, .ok u)) : ∃ t, st = .ok t ∧ p t = some (a, u) := by
  cases st with
  | bad q => simp [St.step] at h
  | ok t =>
    refine ⟨t, rfl, ?_⟩
    unfold St.step at h
    cases hp : p t with
    | none => simp [hp] at h
    | some q =>
      obtain ⟨b, v⟩ := q
      simp [hp] at h
      rw [h.1, h.2]
theorem numS_back {m : Int} {n x : Nat} {st : St} {u : List UInt8} (h : numS m n st = (x, .ok u)) : st = .ok (numB x ++ u) ∧ x ≤ 4611686018427387903 := by
  obtain ⟨t, h1, h2⟩ := step_back h
  obtain ⟨h3, _, h4⟩ := numP_inv h2
  exact ⟨by rw [h1, h3], h4⟩
theorem txtS_back {m : Int} {n : Nat} {y : List UInt8} {st : St} {u : List UInt8} (h : txtS m n st = (y, .ok u)) : st = .ok (textB y ++ u) := by
  obtain ⟨t, h1, h2⟩ := step_back h
  rw [h1, (txtP_inv h2).1]; rfl
theorem flagS_back {n : Nat} {b : Bool} {st : St} {u : List UInt8} (h : flagS n st = (b, .ok u)) : st = .ok (flagB b ++ u) := by
  obtain ⟨t, h1, h2⟩ := step_back h
  rw [h1, flagP_inv h2]
theorem vecS_back {n : Nat} {v : List Int} {st : St} {u : List UInt8} (h : vecS n st = (v, .ok u)) : st = .ok (vecB v ++ u) ∧ trim v 1099511627776 = true := by
  obtain ⟨t, h1, h2⟩ := step_back h
  obtain ⟨h3, h4⟩ := vecP_inv h2
  exact ⟨by rw [h1, h3], h4⟩
theorem numS_fwd {m : Int} {n : Nat} {x : Int} {u : List UInt8} (h0 : 0 ≤ x) (h1 : x ≤ m) (h2 : x ≤ 1099511627776) : numS m n (.ok (numB x.toNat ++ u)) = (x.toNat, .ok u) :=
  numS_ok n (numP_put u (by omega) (by unfold top62; omega))
theorem txtS_fwd {m : Int} {n : Nat} {y u : List UInt8} (h1 : (y.length : Int) ≤ m) (h2 : y.length ≤ 1000) : txtS m n (.ok (textB y ++ u)) = (y, .ok u) := by
  have := txtP_put u h1 (by unfold top62; omega)
  unfold txtS St.step textB
  simp only [this]
theorem flagS_fwd {n : Nat} {b : Bool} {u : List UInt8} : flagS n (.ok (flagB b ++ u)) = (b, .ok u) := by
  unfold flagS St.step; simp only [flagP_put]
theorem vecS_fwd {n : Nat} {v : List Int} {u : List UInt8} (h : trim v 1099511627776 = true) : vecS n (.ok (vecB v ++ u)) = (v, .ok u) := by
  have := vecP_put u h
  unfold vecS St.step; simp only [this]
/-- The claims whose bytes these are. -/
def IsC (s : List UInt8) (c : Cl) : Prop := rightC c = true ∧ s = bytesC c
def IsW (s : List UInt8) (c : Wt) : Prop := rightW c = true ∧ s = bytesW c
structure ChC (m1 m2 m3 : Int) (n : Nat) (s : List UInt8) (x1 x2 : List UInt8) (x3 x4 x5 : Nat) (x6 : List Int) (s1 s2 s3 s4 s5 s6 : St) : Prop where
  e1 : (x1, s1) = txtS m1 n (.ok s)
  e2 : (x2, s2) = txtS m2 n s1
  e3 : (x3, s3) = numS m3 n s2
  e4 : (x4, s4) = numS m3 n s3
  e5 : (x5, s5) = numS m3 n s4
  e6 : (x6, s6) = vecS n s5
theorem ChC.back {m1 m2 m3 : Int} {n : Nat} {s x1 x2 : List UInt8} {x3 x4 x5 : Nat} {x6 : List Int} {s1 s2 s3 s4 s5 s6 : St} (c : ChC m1 m2 m3 n s x1 x2 x3 x4 x5 x6 s1 s2 s3 s4 s5 s6) (h : s6 = .ok []) : s = bytesC ⟨x1, x2, x3, x4, x5, x6⟩ := by
  subst h
  obtain ⟨rfl, h6⟩ := vecS_back c.e6.symm
  obtain ⟨rfl, h5⟩ := numS_back c.e5.symm
  obtain ⟨rfl, h4⟩ := numS_back c.e4.symm
  obtain ⟨rfl, h3⟩ := numS_back c.e3.symm
  have := txtS_back c.e2.symm
  subst this
  have := txtS_back c.e1.symm
  injection this with this
  rw [this]
  unfold bytesC
  simp
theorem ChC.fwd {m1 m2 m3 : Int} {n : Nat} {s x1 x2 : List UInt8} {x3 x4 x5 : Nat} {x6 : List Int} {s1 s2 s3 s4 s5 s6 : St} (c : ChC m1 m2 m3 n s x1 x2 x3 x4 x5 x6 s1 s2 s3 s4 s5 s6) (h1 : 64 ≤ m1) (h2 : 32 ≤ m2) (h3 : 1099511627776 ≤ m3) {d : Cl} (hd : IsC s d) : d = ⟨x1, x2, x3, x4, x5, x6⟩ ∧ s6 = .ok [] := by
  obtain ⟨hr, rfl⟩ := hd
  obtain ⟨r1, r2, r3, r4, ⟨r5, r6⟩, ⟨r7, r8⟩, ⟨r9, r10⟩, r11⟩ := rightC_iff.1 hr
  have e1 := c.e1
  unfold bytesC at e1
  rw [txtS_fwd (by omega) (by omega)] at e1
  injection e1 with a1 b1
  have e2 := c.e2
  rw [b1, txtS_fwd (by omega) (by omega)] at e2
  injection e2 with a2 b2
  have e3 := c.e3
  rw [b2, numS_fwd r5 (by omega) (by omega)] at e3
  injection e3 with a3 b3
  have e4 := c.e4
  rw [b3, numS_fwd r7 (by omega) (by omega)] at e4
  injection e4 with a4 b4
  have e5 := c.e5
  rw [b4, numS_fwd r9 (by omega) (by omega)] at e5
  injection e5 with a5 b5
  have e6 := c.e6
  rw [b5, ← List.append_nil (vecB d.x), vecS_fwd r11] at e6
  injection e6 with a6 b6
  exact ⟨Cl.ext' a1.symm a2.symm (by rw [a3]; simp only; omega) (by rw [a4]; simp only; omega) (by rw [a5]; simp only; omega) a6.symm, b6⟩
structure ChW (m1 m2 m3 m4 m5 : Int) (n : Nat) (s : List UInt8) (x1 x2 x3 : Nat) (x4 : List Int) (x5 x6 : List UInt8) (x7 : Bool) (x8 : List UInt8) (x9 : Nat) (s1 s2 s3 s4 s5 s6 s7 s8 s9 : St) : Prop where
  e1 : (x1, s1) = numS m1 n (.ok s)
  e2 : (x2, s2) = numS m2 n s1
  e3 : (x3, s3) = numS m2 n s2
  e4 : (x4, s4) = vecS n s3
  e5 : (x5, s5) = txtS m3 n s4
  e6 : (x6, s6) = txtS m4 n s5
  e7 : (x7, s7) = flagS n s6
  e8 : (x8, s8) = txtS m5 n s7
  e9 : (x9, s9) = numS m2 n s8
section
variable {m1 m2 m3 m4 m5 : Int} {n : Nat} {s : List UInt8} {x1 x2 x3 : Nat} {x4 : List Int} {x5 x6 : List UInt8} {x7 : Bool} {x8 : List UInt8} {x9 : Nat} {s1 s2 s3 s4 s5 s6 s7 s8 s9 : St}
theorem ChW.back (c : ChW m1 m2 m3 m4 m5 n s x1 x2 x3 x4 x5 x6 x7 x8 x9 s1 s2 s3 s4 s5 s6 s7 s8 s9) (h : s9 = .ok []) : s = bytesW ⟨x1, x2, x3, x1, x4, x5, x6, x8, x7, x9⟩ := by
  subst h
  obtain ⟨rfl, _⟩ := numS_back c.e9.symm
  have := txtS_back c.e8.symm
  subst this
  have := flagS_back c.e7.symm
  subst this
  have := txtS_back c.e6.symm
  subst this
  have := txtS_back c.e5.symm
  subst this
  obtain ⟨rfl, _⟩ := vecS_back c.e4.symm
  obtain ⟨rfl, _⟩ := numS_back c.e3.symm
  obtain ⟨rfl, _⟩ := numS_back c.e2.symm
  obtain ⟨h1, _⟩ := numS_back c.e1.symm
  injection h1 with h1
  rw [h1]
  unfold bytesW
  simp
theorem ChW.fwd (c : ChW m1 m2 m3 m4 m5 n s x1 x2 x3 x4 x5 x6 x7 x8 x9 s1 s2 s3 s4 s5 s6 s7 s8 s9) (h1 : 16 ≤ m1) (h2 : 1099511627776 ≤ m2) (h3 : 64 ≤ m3) (h4 : 32 ≤ m4) (h5 : 128 ≤ m5) {d : Wt} (hd : IsW s d) : d = ⟨x1, x2, x3, x1, x4, x5, x6, x8, x7, x9⟩ ∧ s9 = .ok [] := by
  obtain ⟨hr, rfl⟩ := hd
  obtain ⟨r1, r2, ⟨r3, r4⟩, r5, ⟨r6, r7⟩, r8, r9, r10, r11, r12, _, ⟨r13, r14⟩⟩ := rightW_iff.1 hr
  have e1 := c.e1
  unfold bytesW at e1
  rw [numS_fwd (by omega) (by omega) (by omega)] at e1
  injection e1 with a1 b1
  have e2 := c.e2
  rw [b1, numS_fwd (by omega) (by omega) (by omega)] at e2
  injection e2 with a2 b2
  have e3 := c.e3
  rw [b2, numS_fwd (by omega) (by omega) (by omega)] at e3
  injection e3 with a3 b3
  have e4 := c.e4
  rw [b3, vecS_fwd r8] at e4
  injection e4 with a4 b4
  have e5 := c.e5
  rw [b4, txtS_fwd (by omega) (by omega)] at e5
  injection e5 with a5 b5
  have e6 := c.e6
  rw [b5, txtS_fwd (by omega) (by omega)] at e6
  injection e6 with a6 b6
  have e7 := c.e7
  rw [b6, flagS_fwd] at e7
  injection e7 with a7 b7
  have e8 := c.e8
  rw [b7, txtS_fwd (by omega) (by omega)] at e8
  injection e8 with a8 b8
  have e9 := c.e9
  rw [b8, ← List.append_nil (numB d.l.toNat), numS_fwd (by omega) (by omega) (by omega)] at e9
  injection e9 with a9 b9
  exact ⟨Wt.ext' (by rw [a1]; simp only; omega) (by rw [a2]; simp only; omega) (by rw [a3]; simp only; omega) (by rw [a1]; simp only; omega) a4.symm a5.symm a6.symm a8.symm a7.symm (by rw [a9]; simp only; omega), b9⟩
end
def clZ : Cl := ⟨[], [], 0, 0, 0, []⟩
def wtZ : Wt := ⟨0, 0, 0, 0, [], [], [], [], false, 0⟩
/-- What Decode tells, of a text. -/
def DEC (w0 : World) (h : PH) (s : List UInt8) (v : Value) : Prop :=
  (∃ c A cap, IsC s c ∧ v = .tuple #[.agg (clL c A cap).toArray, .nilIface] ∧ c.x.length ≤ cap ∧ Rv w0 h A (ints c.x)) ∨ ((∀ c, ¬ IsC s c) ∧ ∃ ev e, v = .tuple #[.agg (clL clZ none 0).toArray, ev] ∧ EV h e ev ∧ e.num = 2)
def DEW (w0 : World) (h : PH) (s : List UInt8) (v : Value) : Prop :=
  (∃ c A cap, IsW s c ∧ v = .tuple #[.agg (wtL c A cap).toArray, .nilIface] ∧ c.d.length ≤ cap ∧ Rv w0 h A (ints c.d)) ∨ ((∀ c, ¬ IsW s c) ∧ ∃ ev e, v = .tuple #[.agg (wtL wtZ none 0).toArray, ev] ∧ EV h e ev ∧ e.num = 2)
/-- .. and the document's reader. -/
def REC (w0 : World) (h : PH) (s : List UInt8) (v : Value) : Prop :=
  (∃ c A cap, IsC s c ∧ v = .tuple #[.agg (clL c A cap).toArray, .bool true] ∧ c.x.length ≤ cap ∧ Rv w0 h A (ints c.x)) ∨ ((∀ c, ¬ IsC s c) ∧ v = .tuple #[.agg (clL clZ none 0).toArray, .bool false])
def REW (w0 : World) (h : PH) (s : List UInt8) (v : Value) : Prop :=
  (∃ c A cap, IsW s c ∧ v = .tuple #[.agg (wtL c A cap).toArray, .bool true] ∧ c.d.length ≤ cap ∧ Rv w0 h A (ints c.d)) ∨ ((∀ c, ¬ IsW s c) ∧ v = .tuple #[.agg (wtL wtZ none 0).toArray, .bool false])
end Go.Proofs.Ytjpfablpkekdgaa
