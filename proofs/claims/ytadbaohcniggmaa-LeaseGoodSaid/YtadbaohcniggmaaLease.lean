/- Walks of the lease functions: New, is, Grant, Until, Good: what each returns and what becomes of the leases. The numbers are 64-bit ones. -/
import Derived.Test.YtadbaohcniggmaaErr
import Derived.Deep.MidRow
namespace Go.Proofs.Ytadbaohcniggmaa
set_option linter.unusedVariables false
set_option linter.unusedSimpArgs false
open Go.RowKit Base

/-- The cells of a region's leases. -/
def leaseCells (region n : Int) (u : List Int) : List Value := [.int .i64 region, .int .i64 n] ++ u.map (Value.int .i64)
/-- Block p holds leases. -/
def LeaseAt (w : World) (p : Nat) (region n : Int) (u : List Int) : Prop := Blk w p 39 (leaseCells region n u).toArray ∧ u.length = 17

section
variable {w w' : World} {p : Nat} {region n : Int} {u : List Int}
theorem LeaseAt.on (h : LeaseAt w p region n u) (hb : Below w.heap.size w w') : LeaseAt w' p region n u := ⟨h.1.on hb, h.2⟩
theorem LeaseAt.region_ (h : LeaseAt w p region n u) : w.cell? ⟨p, 0, none⟩ = some (.int .i64 region) := h.1.cell 0
theorem LeaseAt.n_ (h : LeaseAt w p region n u) : w.cell? ⟨p, 1, none⟩ = some (.int .i64 n) := h.1.cell 1
theorem LeaseAt.until (h : LeaseAt w p region n u) {i : Nat} {t : Int} (ht : u[i]? = some t) : w.cell? ⟨p, 2 + i, none⟩ = some (.int .i64 t) := by
  rw [h.1.cell]
  simp [leaseCells, Nat.add_comm 2 i, ht]
theorem LeaseAt.range (h : LeaseAt w p region n u) : w.rangeAt p 2 (u.map (Value.int .i64)) := by
  intro j v hv
  rw [List.getElem?_map] at hv
  obtain ⟨t, ht, rfl⟩ := Option.map_eq_some_iff.1 hv
  exact h.until ht
end

/-- Is r another region that is there? -/
def isB (region n r : Int) : Bool := decide (1 ≤ r ∧ r ≤ n ∧ r ≠ region)
theorem isB_true {region n r : Int} (h : 1 ≤ r ∧ r ≤ n ∧ r ≠ region) : isB region n r = true := decide_eq_true h
theorem isB_false {region n r : Int} (h : ¬ (1 ≤ r ∧ r ≤ n ∧ r ≠ region)) : isB region n r = false := decide_eq_false h

theorem is_some (p : Nat) (region n r : Int) (u : List Int) (w : World) (h : LeaseAt w p region n u) :
    Calls Try.prog 13 #[.pointer (some ⟨p, 0, none⟩), .int .i64 r] w fun e w' => e = .returned (.bool (isB region n r)) ∧ w = w' := by
  have g0 := h.region_
  have g1 := h.n_
  clear h
  by_cases h1 : 1 ≤ r
  · by_cases h2 : r ≤ n
    · by_cases h3 : r = region
      · have h3' : (r != region) = false := by simpa using h3
        have HD := Lib.hid (isB_false (region := region) (n := n) (r := r) (by omega))
        clear h3
        go_enter Try.func13, Try.ntmps13
        go_wp2
        go_ret
        exact ⟨ret_bool HD.out.symm, rfl⟩
      · have h3' : (r != region) = true := by simpa using h3
        have HD := Lib.hid (isB_true (region := region) (n := n) (r := r) (by omega))
        clear h3
        go_enter Try.func13, Try.ntmps13
        go_wp2
        go_ret
        exact ⟨ret_bool HD.out.symm, rfl⟩
    · have HD := Lib.hid (isB_false (region := region) (n := n) (r := r) (by omega))
      go_enter Try.func13, Try.ntmps13
      go_wp2
      go_ret
      exact ⟨ret_bool HD.out.symm, rfl⟩
  · have HD := Lib.hid (isB_false (region := region) (n := n) (r := r) (by omega))
    go_enter Try.func13, Try.ntmps13
    go_wp2
    go_ret
    exact ⟨ret_bool HD.out.symm, rfl⟩

theorem is_none (r : Int) (w : World) : Calls Try.prog 13 #[.pointer none, .int .i64 r] w fun e w' => e = .returned (.bool false) ∧ w = w' := by
  go_enter Try.func13, Try.ntmps13
  go_wp2
  go_ret
  exact ⟨rfl, rfl⟩

def zeros17 : List Int := List.replicate 17 0
/-- What New hands back. -/
def NewPost (region n : Int) (W : World) (e : Ending) (w' : World) : Prop :=
  ((1 ≤ n ∧ n ≤ 16 ∧ 1 ≤ region ∧ region ≤ n) ∧ ∃ p, e = .returned (.tuple #[.pointer (some ⟨p, 0, none⟩), .nilIface]) ∧ W.heap.size ≤ p ∧ LeaseAt w' p region n zeros17 ∧ Below W.heap.size W w') ∨
  (¬ (1 ≤ n ∧ n ≤ 16 ∧ 1 ≤ region ∧ region ≤ n) ∧ ∃ v, e = .returned (.tuple #[.pointer none, v]) ∧ Wrap1 w' ⟨#[108, 101, 97, 115, 101]⟩ 0 1 v ∧ Below W.heap.size W w')

theorem new_any (region n : Int) (w : World) : Calls Try.prog 7 #[.int .i64 region, .int .i64 n] w (NewPost region n w) := by
  by_cases h : 1 ≤ n ∧ n ≤ 16 ∧ 1 ≤ region ∧ region ≤ n
  · obtain ⟨h1, h2, h3, h4⟩ := h
    go_enter Try.func7, Try.ntmps7
    go_wp2
    go_ret2
    exact Or.inl ⟨⟨h1, h2, h3, h4⟩, _, rfl, Nat.le_refl _, ⟨Blk.new _ _ _, rfl⟩, by go_grown⟩
  · have HN := Lib.hid h
    rcases (show n < 1 ∨ (1 ≤ n ∧ 16 < n) ∨ (1 ≤ n ∧ n ≤ 16 ∧ region < 1) ∨ (1 ≤ n ∧ n ≤ 16 ∧ 1 ≤ region ∧ n < region) by omega) with h1 | ⟨h1, h2⟩ | ⟨h1, h2, h3⟩ | ⟨h1, h2, h3, h4⟩
    all_goals
      clear h
      go_enter Try.func7, Try.ntmps7
      go_wp2_with (go_at_call 12; refine (at_code _ _ _ _).mono ?_; rintro e w1 ⟨v, rfl, hw, hb⟩)
      go_ret2
      exact Or.inr ⟨HN.out, _, rfl, by assumption, by assumption⟩
end Go.Proofs.Ytadbaohcniggmaa
