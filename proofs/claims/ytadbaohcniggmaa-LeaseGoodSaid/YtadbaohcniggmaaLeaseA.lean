/- Walk of the lease laws' awake: it returns true. -/
import Derived.Test.YtadbaohcniggmaaLeaseG
namespace Go.Proofs.Ytadbaohcniggmaa
set_option linter.unusedVariables false
set_option linter.unusedSimpArgs false
open Go.RowKit Base

def u5 : List Int := [0, 0, 17, 0, 0, 0, 0, 0, 0, 0, 0, 0, 0, 0, 0, 0, 0]
theorem grant_awake : grantB 1 2 zeros17 2 5 9 = true := by decide
theorem grant_awakeU : grantU 1 2 zeros17 2 5 9 = u5 := by decide
theorem u5_bd : ∀ t ∈ u5, -9223372036854775808 ≤ t ∧ t ≤ 9223372036854775807 := by
  intro t ht
  simp [u5] at ht
  omega
theorem zeros_bd : ∀ t ∈ zeros17, -9223372036854775808 ≤ t ∧ t ≤ 9223372036854775807 := by
  intro t ht
  simp [zeros17] at ht
  omega
theorem u5_get (r : Nat) (t : Int) (h : u5[r]? = some t) : r < 17 ∧ (r = 2 → t = 17) ∧ (r ≠ 2 → t = 0) := by
  have hr : r < 17 := by have := (List.getElem?_eq_some_iff.1 h).1; simpa [u5] using this
  refine ⟨hr, ?_, ?_⟩
  · rintro rfl; simpa [u5] using h.symm
  · intro hne
    rcases (show r = 0 ∨ r = 1 ∨ r = 3 ∨ r = 4 ∨ r = 5 ∨ r = 6 ∨ r = 7 ∨ r = 8 ∨ r = 9 ∨ r = 10 ∨ r = 11 ∨ r = 12 ∨ r = 13 ∨ r = 14 ∨ r = 15 ∨ r = 16 by omega) with rfl | rfl | rfl | rfl | rfl | rfl | rfl | rfl | rfl | rfl | rfl | rfl | rfl | rfl | rfl | rfl <;> simpa [u5] using h.symm

theorem good_awake16 (r : Nat) (t : Int) (h : u5[r]? = some t) : badB 1 2 16 r t = false := by
  obtain ⟨h1, h2, h3⟩ := u5_get r t h
  unfold badB isB
  by_cases hr : r = 2
  · rw [h2 hr, hr]; decide
  · have : ¬ (1 ≤ (r : Int) ∧ (r : Int) ≤ 2 ∧ (r : Int) ≠ 1) := by omega
    simp [this]
theorem bad_awake17 : badB 1 2 17 (2 : Nat) 17 = true := by decide

set_option maxHeartbeats 4000000 in
theorem awake_any (w : World) : Calls Try.prog 6 #[] w fun en w' => en = .returned (.bool true) ∧ Below w.heap.size w w' := by
  go_enter Try.func6, Try.ntmps6
  go_wp2_with fail
  refine (new_any 1 2 w).mono ?_
  rintro e w1 (⟨_, p, rfl, hp, hL, hb1⟩ | ⟨hn, _⟩)
  · have HL := Lib.hid hL
    clear hL
    go_wp2_with fail
    refine (grant_some p 1 2 2 5 9 zeros17 w1 HL.out (by omega) zeros_bd).mono ?_
    rintro e w2 ⟨he, hL2, ho2⟩
    rw [grant_awake] at he
    rw [grant_awakeU] at hL2
    subst he
    have HL2 := Lib.hid hL2
    clear hL2
    go_wp2_with fail
    refine (good_some p 1 2 16 u5 w2 HL2.out u5_bd).mono ?_
    rintro e w3 ⟨hb3, (⟨_, rfl⟩ | ⟨r, t, h1, h2, _⟩)⟩
    · have HL3 := Lib.hid (HL2.out.on hb3)
      go_wp2_with fail
      refine (good_some p 1 2 17 u5 w3 HL3.out u5_bd).mono ?_
      rintro e w4 ⟨hb4, (⟨h1, rfl⟩ | ⟨r, t, _, _, _, v, rfl, hw⟩)⟩
      · exact absurd (h1 2 17 rfl) (by rw [bad_awake17]; decide)
      · go_wp2_with fail
        refine (is_wrap1 _ _ _ _ _ _ hw).mono ?_
        rintro e w5 ⟨rfl, hb5⟩
        go_wp2_with fail
        go_ret
        exact ⟨rfl, below_trans (below_trans (below_trans (ho2.below hb1 hp hb1.size) hb3) hb4) hb5⟩
    · exact absurd h2 (by rw [good_awake16 r t h1]; decide)
  · exact absurd (by omega) hn
end Go.Proofs.Ytadbaohcniggmaa
