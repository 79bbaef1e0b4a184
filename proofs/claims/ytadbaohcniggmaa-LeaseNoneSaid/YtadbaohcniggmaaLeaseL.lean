/- LeaseAlone and LeaseNone: a region alone is good at any time, of more than one at first none is; leases that are not there have lapsed. No condition. -/
import Derived.Test.YtadbaohcniggmaaLeaseA
namespace Go.Proofs.Ytadbaohcniggmaa.LeaseL
set_option linter.unusedVariables false
set_option linter.unusedSimpArgs false
open Go.ChangeShapes Go.WideShapes Go.ChangeAt Go.RowKit Base

theorem zeros_get (r : Nat) (t : Int) (h : zeros17[r]? = some t) : r < 17 ∧ t = 0 := by
  have hr : r < 17 := by have := (List.getElem?_eq_some_iff.1 h).1; simpa [zeros17] using this
  unfold zeros17 at h
  rw [List.getElem?_replicate, if_pos hr] at h
  exact ⟨hr, (Option.some.inj h).symm⟩

set_option maxHeartbeats 4000000 in
theorem none_any (from_ asked now : Int) (w : World) :
    Calls Try.prog 5 #[.int .i64 from_, .int .i64 asked, .int .i64 now] w fun en w' => en = .returned (.bool true) ∧ Below w.heap.size w w' := by
  go_enter Try.func5, Try.ntmps5
  go_wp2_with fail
  refine (awake_any w).mono ?_
  rintro e w1 ⟨rfl, hb1⟩
  go_wp2_with (first | (go_at_call 8; refine (grant_none _ _ _ _).mono ?_; rintro e w2 ⟨rfl, rfl⟩) | (go_at_call 11; go_in) | (go_at_call 13; refine (is_none _ _).mono ?_; rintro e w2 ⟨rfl, rfl⟩))
  refine (good_none _ _).mono ?_
  rintro e w3 ⟨v, rfl, hw, hb3⟩
  go_wp2_with fail
  refine (is_wrap1 _ _ _ _ _ _ hw).mono ?_
  rintro e w4 ⟨rfl, hb4⟩
  go_wp2_with fail
  go_ret
  exact ⟨rfl, below_trans (below_trans hb1 hb3) hb4⟩

set_option maxHeartbeats 4000000 in
theorem alone_any (region n now : Int) (w : World) :
    Calls Try.prog 4 #[.int .i64 region, .int .i64 n, .int .i64 now] w fun en w' => en = .returned (.bool true) ∧ Below w.heap.size w w' := by
  go_enter Try.func4, Try.ntmps4
  go_wp2_with fail
  refine (awake_any w).mono ?_
  rintro e w1 ⟨rfl, hb1⟩
  go_wp2_with fail
  refine (new_any region n w1).mono ?_
  rintro e w2 (⟨⟨hn1, hn2, hn3, hn4⟩, p, rfl, hp, hL, hb2⟩ | ⟨hn, v, rfl, hw2, hb2⟩)
  · have HL := Lib.hid hL
    clear hL
    go_wp2_with fail
    refine (good_some p region n now zeros17 w2 HL.out zeros_bd).mono ?_
    rintro e w3 ⟨hb3, (⟨hg, rfl⟩ | ⟨r, t, h1, h2, _, v, rfl, hw⟩)⟩
    · by_cases h1 : n = 1
      · have hn1' : (n == 1) = true := by simpa using h1
        clear h1 hg
        go_wp2_with fail
        go_ret
        exact ⟨rfl, below_trans (below_trans hb1 hb2) hb3⟩
      · exfalso
        by_cases hr : region = 1
        · have := hg 2 0 rfl
          unfold badB isB at this
          have h : 1 ≤ ((2 : Nat) : Int) ∧ ((2 : Nat) : Int) ≤ n ∧ ((2 : Nat) : Int) ≠ region := by omega
          rw [decide_eq_true h] at this
          simp at this
          omega
        · have := hg 1 0 rfl
          unfold badB isB at this
          have h : 1 ≤ ((1 : Nat) : Int) ∧ ((1 : Nat) : Int) ≤ n ∧ ((1 : Nat) : Int) ≠ region := by omega
          rw [decide_eq_true h] at this
          simp at this
          omega
    · have hn1' : (n == 1) = false := by
        unfold badB isB at h2
        simp at h2 ⊢
        omega
      obtain ⟨b, rfl, _⟩ := hw
      clear h1 h2
      go_wp2_with fail
      go_ret
      exact ⟨rfl, below_trans (below_trans hb1 hb2) hb3⟩
  · obtain ⟨b, rfl, hB⟩ := hw2
    have HB := Lib.hid hB
    clear hB
    go_wp2_with fail
    refine (good_none _ _).mono ?_
    rintro e w3 ⟨v, rfl, hw, hb3⟩
    go_wp2_with fail
    refine (is_wrap1 _ _ _ _ _ _ hw).mono ?_
    rintro e w4 ⟨rfl, hb4⟩
    go_wp2_with fail
    go_ret
    exact ⟨rfl, below_trans (below_trans (below_trans hb1 hb2) hb3) hb4⟩
set_option maxRecDepth 100000 in
theorem liftedLeaseAlone (os : Os) (started : os.Started) (H : Type) (enc : TypeId × Value → H) :
    ReturnsInHanded {} Try.checked os 4 .any (Rows.leaseAloneSpec.pre6 enc Try.prog Try.f4 Rows.leaseAloneRow.domain false) (Rows.leaseAloneSpec.post enc Try.prog Try.f4 false true false false) := by
  refine returnsInHanded_of_change_sized (C := Try.checked) own started (by kernel_rfl) Try.func4
    (ChangeSpec.witness6 (enc := enc) (C := Try.checked) false ⟨#[], #[.int .i64 0, .int .i64 0, .int .i64 0], []⟩ 8 (by kernel_rfl) (by kernel_rfl) (by kernel_rfl) (by kernel_rfl)) ?_
  intro W base args ds gs before hval0 hW _ hsz0 _
  have hsz : (DataW.weightsEach Try.prog (Try.f4.params.toList ++ Rows.leaseAloneSpec.plain.varTypes Try.prog) (ds ++ gs)).all (· ≤ reachBytes) = true := hsz0
  have hval : ∀ (j : Nat) t v, Try.f4.params[j]? = some t → args[j]? = some v → Value.okWide Try.prog W .any base t v := hval0
  have hW' := hW
  obtain ⟨p, q, hA0, hV, rfl, _, _⟩ := hW
  have hA : DataW.TrodAll enc Try.prog W 0 (fun _ => true) true Try.f4.params.toList args.toList ds p := hA0
  rw [Try.params4] at hA hval hsz
  obtain ⟨v0, v1, v2, d0, d1, d2, p0, p1, p2, rfl, rfl, rfl, h0, h1, h2⟩ := trodAll_three hA
  obtain ⟨rfl, _⟩ := trodVars_none hV
  obtain ⟨a0, rfl, rfl, rfl, w0⟩ := open_int Try.underlying3 (hval 0 _ v0 rfl rfl) h0
  obtain ⟨a1, rfl, rfl, rfl, w1⟩ := open_int Try.underlying3 (hval 1 _ v1 rfl rfl) h1
  obtain ⟨a2, rfl, rfl, rfl, w2⟩ := open_int Try.underlying3 (hval 2 _ v2 rfl rfl) h2
  refine (alone_any a0 a1 a2 W).mono fun en W' ⟨he, hb⟩ => ?_
  subst he
  exact ⟨_, rfl, law_post (tb := 4) laidOut hW' rfl rfl rfl rfl Try.underlying4 (by intro t ht; revert t; exact of_decide_eq_true (by kernel_rfl)) (by kernel_rfl) hb⟩

theorem provedLeaseAlone : Rows.LeaseAloneSaid :=
  OpenClaim.holds_of_wide 4 Try.f4 rfl rfl rfl rfl rfl rfl rfl ⟨rfl, rfl, rfl, rfl, rfl⟩ rfl rfl rfl rfl rfl (by kernel_rfl) Try.func4 (by kernel_rfl)
    (of_decide_eq_true (by kernel_rfl)) (by unfold Func.isWrapper; first | (rw [if_pos (by decide +kernel)]; kernel_rfl) | (rw [if_neg (by decide +kernel)]; exact ⟨rfl, rfl⟩))
    (fun os started H enc _ => liftedLeaseAlone os started H enc)
#print axioms provedLeaseAlone

set_option maxRecDepth 100000 in
theorem liftedLeaseNone (os : Os) (started : os.Started) (H : Type) (enc : TypeId × Value → H) :
    ReturnsInHanded {} Try.checked os 5 .any (Rows.leaseNoneSpec.pre6 enc Try.prog Try.f5 Rows.leaseNoneRow.domain false) (Rows.leaseNoneSpec.post enc Try.prog Try.f5 false true false false) := by
  refine returnsInHanded_of_change_sized (C := Try.checked) own started (by kernel_rfl) Try.func5
    (ChangeSpec.witness6 (enc := enc) (C := Try.checked) false ⟨#[], #[.int .i64 0, .int .i64 0, .int .i64 0], []⟩ 8 (by kernel_rfl) (by kernel_rfl) (by kernel_rfl) (by kernel_rfl)) ?_
  intro W base args ds gs before hval0 hW _ hsz0 _
  have hsz : (DataW.weightsEach Try.prog (Try.f5.params.toList ++ Rows.leaseNoneSpec.plain.varTypes Try.prog) (ds ++ gs)).all (· ≤ reachBytes) = true := hsz0
  have hval : ∀ (j : Nat) t v, Try.f5.params[j]? = some t → args[j]? = some v → Value.okWide Try.prog W .any base t v := hval0
  have hW' := hW
  obtain ⟨p, q, hA0, hV, rfl, _, _⟩ := hW
  have hA : DataW.TrodAll enc Try.prog W 0 (fun _ => true) true Try.f5.params.toList args.toList ds p := hA0
  rw [Try.params5] at hA hval hsz
  obtain ⟨v0, v1, v2, d0, d1, d2, p0, p1, p2, rfl, rfl, rfl, h0, h1, h2⟩ := trodAll_three hA
  obtain ⟨rfl, _⟩ := trodVars_none hV
  obtain ⟨a0, rfl, rfl, rfl, w0⟩ := open_int Try.underlying3 (hval 0 _ v0 rfl rfl) h0
  obtain ⟨a1, rfl, rfl, rfl, w1⟩ := open_int Try.underlying3 (hval 1 _ v1 rfl rfl) h1
  obtain ⟨a2, rfl, rfl, rfl, w2⟩ := open_int Try.underlying3 (hval 2 _ v2 rfl rfl) h2
  refine (none_any a0 a1 a2 W).mono fun en W' ⟨he, hb⟩ => ?_
  subst he
  exact ⟨_, rfl, law_post (tb := 4) laidOut hW' rfl rfl rfl rfl Try.underlying4 (by intro t ht; revert t; exact of_decide_eq_true (by kernel_rfl)) (by kernel_rfl) hb⟩

theorem provedLeaseNone : Rows.LeaseNoneSaid :=
  OpenClaim.holds_of_wide 5 Try.f5 rfl rfl rfl rfl rfl rfl rfl ⟨rfl, rfl, rfl, rfl, rfl⟩ rfl rfl rfl rfl rfl (by kernel_rfl) Try.func5 (by kernel_rfl)
    (of_decide_eq_true (by kernel_rfl)) (by unfold Func.isWrapper; first | (rw [if_pos (by decide +kernel)]; kernel_rfl) | (rw [if_neg (by decide +kernel)]; exact ⟨rfl, rfl⟩))
    (fun os started H enc _ => liftedLeaseNone os started H enc)
#print axioms provedLeaseNone

end Go.Proofs.Ytadbaohcniggmaa.LeaseL
