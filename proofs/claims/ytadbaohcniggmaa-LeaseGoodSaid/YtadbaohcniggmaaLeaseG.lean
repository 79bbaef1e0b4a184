/- Walks of Good and Grant and Until of leases. The numbers are 64-bit ones. -/
import Derived.Test.YtadbaohcniggmaaLease
namespace Go.Proofs.Ytadbaohcniggmaa
set_option linter.unusedVariables false
set_option linter.unusedSimpArgs false
open Go.RowKit Base

/-- Has the lease of region r, which holds up to t, lapsed now? -/
def badB (region n now r t : Int) : Bool := isB region n r && (decide (now < 0) || decide (t ≤ now))
def leaseS : ByteArray := ⟨#[108, 101, 97, 115, 101]⟩
/-- What Good hands back: nil where no lease has lapsed, else an error with the first region whose has. -/
def GoodPost (region n now : Int) (u : List Int) (W : World) (e : Ending) (w' : World) : Prop :=
  Below W.heap.size W w' ∧
  (((∀ (r : Nat) t, u[r]? = some t → badB region n now r t = false) ∧ e = .returned .nilIface) ∨
   (∃ (r : Nat) (t : Int), u[r]? = some t ∧ badB region n now r t = true ∧ (∀ (q : Nat) s, q < r → u[q]? = some s → badB region n now q s = false) ∧ ∃ v, e = .returned v ∧ Wrap1 w' leaseS r 12 v))

set_option maxHeartbeats 4000000 in
set_option maxRecDepth 100000 in
theorem good_some (p : Nat) (region n now : Int) (u : List Int) (w : World) (h : LeaseAt w p region n u) (hb1 : ∀ t ∈ u, -9223372036854775808 ≤ t ∧ t ≤ 9223372036854775807) :
    Calls Try.prog 9 #[.pointer (some ⟨p, 0, none⟩), .int .i64 now] w (GoodPost region n now u w) := by
  have hcap := h.2
  have H := Lib.hid h
  have HB1 := Lib.hid hb1
  have HCAP := Lib.hid hcap
  clear h hb1 hcap
  go_enter Try.func9, Try.ntmps9
  go_wp2_with (refine wpList_load_mid rfl 37 _ rfl p 2 rfl (u.map (Value.int .i64)) _ H.out.range Try.underlying37 rfl (by rw [List.length_map, HCAP.out]; kernel_rfl) ?_)
  go_loop [15] (fun i => ∃ k : Nat, k ≤ 17 ∧ i = .int .i64 k ∧ (∀ (r : Nat) t, r < k → u[r]? = some t → badB region n now r t = false)) (fun i => 17 - (intOf i).toNat)
  case atStart => exact ⟨0, by omega, rfl, fun r t h => absurd h (by omega)⟩
  case round =>
    obtain ⟨k, hk, rfl, hall⟩ := hrel
    have HALL := Lib.hid hall
    clear hall
    by_cases hk17 : k < 17
    · obtain ⟨t, ht⟩ : ∃ t, u[k]? = some t := ⟨_, List.getElem?_eq_getElem (by rw [HCAP.out]; exact hk17)⟩
      have hix := fun W => run_index_num (P := Try.prog) (k := .i64) (kk := .i64) W Try.underlying37 Try.underlying3 (by kernel_rfl) (u.map (Value.int .i64)) k (.int .i64 t) hk17 (by rw [List.getElem?_map, ht]; rfl)
      have htb := HB1.out t (List.mem_of_getElem? ht)
      have HT := Lib.hid ht
      clear ht
      by_cases hbad : badB region n now k t = true
      · have h1 : isB region n k = true := by unfold badB at hbad; simp at hbad; exact hbad.1
        have h2 : now < 0 ∨ t ≤ now := by unfold badB at hbad; simp at hbad; exact hbad.2
        have HBAD := Lib.hid hbad
        clear hbad
        by_cases h3 : now < 0
        · go_wp2_with (first | (go_at_call 13; refine (is_some _ _ _ _ _ _ H.out).mono ?_; rintro e w1 ⟨rfl, rfl⟩; rw [h1]) | (go_at_call 12; refine (at_code _ _ _ _).mono ?_; rintro e w2 ⟨v, rfl, hw, hb⟩))
          go_ret
          exact ⟨by assumption, Or.inr ⟨k, t, HT.out, HBAD.out, fun q s hq hs => HALL.out q s hq hs, _, rfl, by assumption⟩⟩
        · have h4 : t ≤ now := by omega
          clear h2
          go_wp2_with (first | (go_at_call 13; refine (is_some _ _ _ _ _ _ H.out).mono ?_; rintro e w1 ⟨rfl, rfl⟩; rw [h1]) | (go_at_call 12; refine (at_code _ _ _ _).mono ?_; rintro e w2 ⟨v, rfl, hw, hb⟩))
          go_ret
          exact ⟨by assumption, Or.inr ⟨k, t, HT.out, HBAD.out, fun q s hq hs => HALL.out q s hq hs, _, rfl, by assumption⟩⟩
      · have hbad' : badB region n now k t = false := by simpa using hbad
        have HBAD := Lib.hid hbad'
        clear hbad hbad'
        cases h1 : isB region n k
        · go_wp2_with (go_at_call 13; refine (is_some _ _ _ _ _ _ H.out).mono ?_; rintro e w1 ⟨rfl, rfl⟩; rw [h1])
          go_round
          case rel =>
            refine ⟨k + 1, by omega, by go_num, fun r s hr hs => ?_⟩
            rcases Nat.lt_succ_iff_lt_or_eq.1 hr with hr | rfl
            · exact HALL.out r s hr hs
            · rw [HT.out] at hs; obtain rfl := Option.some.inj hs; exact HBAD.out
          case measure => simp [intOf]; omega
        · have h3 : ¬ now < 0 := by have := HBAD.out; unfold badB at this; simp [h1] at this; omega
          have h4 : ¬ t ≤ now := by have := HBAD.out; unfold badB at this; simp [h1] at this; omega
          go_wp2_with (go_at_call 13; refine (is_some _ _ _ _ _ _ H.out).mono ?_; rintro e w1 ⟨rfl, rfl⟩; rw [h1])
          go_round
          case rel =>
            refine ⟨k + 1, by omega, by go_num, fun r s hr hs => ?_⟩
            rcases Nat.lt_succ_iff_lt_or_eq.1 hr with hr | rfl
            · exact HALL.out r s hr hs
            · rw [HT.out] at hs; obtain rfl := Option.some.inj hs; exact HBAD.out
          case measure => simp [intOf]; omega
    · obtain rfl : k = 17 := by omega
      go_wp2
      go_ret
      exact ⟨Below.refl _ _, Or.inl ⟨fun r t h => HALL.out r t (by have := (List.getElem?_eq_some_iff.1 h).1; rw [HCAP.out] at this; exact this) h, rfl⟩⟩

theorem good_none (now : Int) (w : World) :
    Calls Try.prog 9 #[.pointer none, .int .i64 now] w fun e w' => ∃ v, e = .returned v ∧ Wrap1 w' leaseS 0 12 v ∧ Below w.heap.size w w' := by
  go_enter Try.func9, Try.ntmps9
  go_wp2_with (go_at_call 12; refine (at_code _ _ _ _).mono ?_; rintro e w2 ⟨v, rfl, hw, hb⟩)
  go_ret
  exact ⟨_, rfl, by assumption, by assumption⟩

/-- Is an answer news? -/
def grantB (region n : Int) (u : List Int) (from_ asked now : Int) : Bool :=
  isB region n from_ && (decide (0 ≤ asked) && (decide (asked ≤ now) && (decide (now ≤ 1099511627776) && !decide (asked + 12 ≤ u.getD from_.toNat 0))))
def grantU (region n : Int) (u : List Int) (from_ asked now : Int) : List Int := if grantB region n u from_ asked now = true then u.set from_.toNat (asked + 12) else u

theorem LeaseAt.set_ {w : World} {p : Nat} {region n : Int} {u : List Int} (h : LeaseAt w p region n u) (i : Nat) (t : Int) : LeaseAt (w.setCell ⟨p, 2 + i, none⟩ (.int .i64 t)) p region n (u.set i t) := by
  refine ⟨?_, by rw [List.length_set]; exact h.2⟩
  have h1 := h.1.set_ (2 + i) (.int .i64 t)
  have h2 : (leaseCells region n u).toArray.setIfInBounds (2 + i) (.int .i64 t) = (leaseCells region n (u.set i t)).toArray := by
    apply Array.ext'
    simp only [Array.toList_setIfInBounds, leaseCells, List.cons_append, List.nil_append, Nat.add_comm 2 i, List.set_cons_succ, List.map_set]
  rw [h2] at h1
  exact h1

def GrantPost (p : Nat) (region n : Int) (u : List Int) (from_ asked now : Int) (W : World) (e : Ending) (w' : World) : Prop :=
  e = .returned (.bool (grantB region n u from_ asked now)) ∧ LeaseAt w' p region n (grantU region n u from_ asked now) ∧ Only p W w'

set_option maxHeartbeats 4000000 in
theorem grant_some (p : Nat) (region n from_ asked now : Int) (u : List Int) (w : World) (h : LeaseAt w p region n u) (hn : n ≤ 16) (hb1 : ∀ t ∈ u, -9223372036854775808 ≤ t ∧ t ≤ 9223372036854775807) :
    Calls Try.prog 8 #[.pointer (some ⟨p, 0, none⟩), .int .i64 from_, .int .i64 asked, .int .i64 now] w (GrantPost p region n u from_ asked now w) := by
  have no (hf : grantB region n u from_ asked now = false) : GrantPost p region n u from_ asked now w (.returned (.bool false)) w := ⟨by rw [hf], by unfold grantU; rw [hf]; exact h, Only.refl _ _⟩
  have NO := Lib.hid no
  have H := Lib.hid h
  cases h1 : isB region n from_
  · have HF := Lib.hid (show grantB region n u from_ asked now = false by unfold grantB; rw [h1]; rfl)
    clear no h
    go_enter Try.func8, Try.ntmps8
    go_wp2_with (go_at_call 13; refine (is_some _ _ _ _ _ _ H.out).mono ?_; rintro e w1 ⟨rfl, rfl⟩; rw [h1])
    go_ret
    exact NO.out HF.out
  · have hr : 1 ≤ from_ ∧ from_ ≤ n := by unfold isB at h1; have := of_decide_eq_true h1; omega
    obtain ⟨f, hf⟩ : ∃ f : Nat, from_ = f := ⟨from_.toNat, by omega⟩
    subst hf
    have hlt : f < u.length := by rw [h.2]; omega
    have hf17 : f < 17 := by omega
    have g0 : w.cell? ⟨p, 2 + f, none⟩ = some (.int .i64 u[f]) := h.until (List.getElem?_eq_getElem hlt)
    have gf : w.frozen? ⟨p, 2 + f, none⟩ = false := h.1.frozen _
    have htb := hb1 _ (List.getElem_mem hlt)
    have hgd : u.getD f 0 = u[f] := by simp [List.getD, List.getElem?_eq_getElem hlt]
    obtain ⟨t, ht⟩ : ∃ t, t = u[f] := ⟨_, rfl⟩
    rw [← ht] at g0 htb hgd
    have HG := Lib.hid (show grantB region n u f asked now = (isB region n f && (decide (0 ≤ asked) && (decide (asked ≤ now) && (decide (now ≤ 1099511627776) && !decide (asked + 12 ≤ t))))) by
      unfold grantB; rw [show ((f : Int)).toNat = f from rfl, hgd])
    clear hb1 hgd no ht
    by_cases c1 : 0 ≤ asked
    · by_cases c2 : asked ≤ now
      · by_cases c3 : now ≤ 1099511627776
        · by_cases c4 : asked + 12 ≤ t
          · have HF := Lib.hid (show grantB region n u f asked now = false by rw [HG.out]; simp [c4])
            clear h
            go_enter Try.func8, Try.ntmps8
            go_wp2_with (go_at_call 13; refine (is_some _ _ _ _ _ _ H.out).mono ?_; rintro e w1 ⟨rfl, rfl⟩; rw [h1])
            go_ret
            exact NO.out HF.out
          · have HF := Lib.hid (show grantB region n u f asked now = true by rw [HG.out]; simp [c1, c2, c3, c4, h1])
            clear h
            go_enter Try.func8, Try.ntmps8
            go_wp2_with (go_at_call 13; refine (is_some _ _ _ _ _ _ H.out).mono ?_; rintro e w1 ⟨rfl, rfl⟩; rw [h1])
            go_ret
            refine ⟨ret_bool HF.out.symm, ?_, Only.setCell _ _ _ _⟩
            unfold grantU
            rw [if_pos HF.out]
            exact H.out.set_ f _
        · have HF := Lib.hid (show grantB region n u f asked now = false by rw [HG.out]; simp [c3])
          clear h
          go_enter Try.func8, Try.ntmps8
          go_wp2_with (go_at_call 13; refine (is_some _ _ _ _ _ _ H.out).mono ?_; rintro e w1 ⟨rfl, rfl⟩; rw [h1])
          go_ret
          exact NO.out HF.out
      · have HF := Lib.hid (show grantB region n u f asked now = false by rw [HG.out]; simp [c2])
        clear h
        go_enter Try.func8, Try.ntmps8
        go_wp2_with (go_at_call 13; refine (is_some _ _ _ _ _ _ H.out).mono ?_; rintro e w1 ⟨rfl, rfl⟩; rw [h1])
        go_ret
        exact NO.out HF.out
    · have HF := Lib.hid (show grantB region n u f asked now = false by rw [HG.out]; simp [c1])
      clear h
      go_enter Try.func8, Try.ntmps8
      go_wp2_with (go_at_call 13; refine (is_some _ _ _ _ _ _ H.out).mono ?_; rintro e w1 ⟨rfl, rfl⟩; rw [h1])
      go_ret
      exact NO.out HF.out

theorem grant_none (from_ asked now : Int) (w : World) :
    Calls Try.prog 8 #[.pointer none, .int .i64 from_, .int .i64 asked, .int .i64 now] w fun e w' => e = .returned (.bool false) ∧ w = w' := by
  go_enter Try.func8, Try.ntmps8
  go_wp2_with (go_at_call 13; refine (is_none _ _).mono ?_; rintro e w1 ⟨rfl, rfl⟩)
  go_ret
  exact ⟨rfl, rfl⟩
end Go.Proofs.Ytadbaohcniggmaa
