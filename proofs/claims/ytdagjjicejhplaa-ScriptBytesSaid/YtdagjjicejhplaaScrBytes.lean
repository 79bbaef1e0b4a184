/- ScriptBytes: any events have six bytes each and come back from them, or have none if one is not right. No condition. -/
import Derived.Test.YtdagjjicejhplaaScrAwake
import Derived.Test.YtdagjjicejhplaaScrRDec
import Derived.Test.YtdagjjicejhplaaScrEnc
namespace Go.Proofs.Ytdagjjicejhplaa.ScrBytes
set_option linter.unusedVariables false
set_option linter.unusedSimpArgs false
open Go.ChangeShapes Go.WideShapes Go.ChangeAt Go.RowKit Base

set_option maxHeartbeats 8000000 in
set_option maxRecDepth 100000 in
theorem bytes_any (A : Option Addr) (n c : Nat) (zs : List Int) (w : World) (hnc : n ≤ c) (hc : c ≤ maxLen)
    (hr : Rd w w.heap.size 6 A n (zs.map (Value.int .i64))) :
    Calls Try.prog 5 #[.slice A n c] w fun e w' => e = .returned (.bool true) ∧ Below w.heap.size w w' := by
  have hlz : zs.length = n * 6 := by simpa using hr.1
  have HLZ := Lib.hid hlz
  have HR := Lib.hid hr
  clear hlz hr
  go_enter Try.func5, Try.ntmps5
  go_wp2_with fail
  refine (Aw.awake_any w).mono ?_
  rintro e w1 ⟨rfl, hb1⟩
  by_cases hn : 1000 < n
  · have hd : decide ((1000 : Int) < n) = true := by simp; omega
    go_wp2_with fail
    go_ret
    exact ⟨rfl, hb1⟩
  have hd : decide ((1000 : Int) < n) = false := by simp; omega
  have HR1 := Lib.hid (HR.out.next hb1)
  go_wp2_with fail
  refine (encode_any A n c zs w1 (by omega) HR1.out).mono ?_
  rintro e w2 (⟨h3, hby, v, rfl, hown, hb2⟩ | ⟨hnot, rfl, hb2⟩)
  · obtain ⟨A2, c2, rfl, hnc2, hc2, hr2⟩ := own_shape2 hown
    have HR2 := Lib.hid (HR1.out.next hb2)
    have HV2 := Lib.hid hr2
    have HBY := Lib.hid hby
    have h3' : decide ((n : Int) ≤ 300) = true := by simp; omega
    clear hown hr2 hby
    go_wp2_with fail
    go_loopw [5, 22] (fun f i wr => ∃ (k : Nat) (t : Bool), k ≤ n ∧ f = .bool t ∧ i = .int .i64 k ∧ (t = true ↔ n ≤ 300 ∧ Bytes (zs.take (k * 6))) ∧ Below w2.heap.size w2 wr) (fun _ i _ => n - (intOf i).toNat)
    case atStart => exact ⟨0, true, by omega, rfl, rfl, ⟨fun _ => ⟨h3, by intro z hz; simp at hz⟩, fun _ => rfl⟩, Below.refl _ _⟩
    case round =>
      obtain ⟨k, t, hk, rfl, rfl, hiff, hbr⟩ := hrel
      have HIFF := Lib.hid hiff
      clear hiff
      by_cases hkn : k < n
      · obtain ⟨x0, x1, x2, x3, x4, x5, hxd⟩ := six_at zs k (by rw [HLZ.out]; omega)
        obtain ⟨b, o, rfl, hbl, hcl⟩ := HR2.out.2 (by omega)
        have cx (i : Nat) (v : Int) (hi : i < 6) (hv : [x0, x1, x2, x3, x4, x5][i]? = some v) : wr.cell? ⟨b, o + (k * 6 + i), none⟩ = some (.int .i64 v) :=
          cell_on (hcl _ _ (by rw [List.getElem?_map, six_get hxd i hi, hv]; rfl)) hbr hbl
        have g0 : wr.cell? ⟨b, o + k * 6, none⟩ = _ := cx 0 x0 (by omega) rfl
        have g1 : wr.cell? ⟨b, o + k * 6 + 1, none⟩ = _ := cx 1 x1 (by omega) rfl
        have g2 : wr.cell? ⟨b, o + k * 6 + 2, none⟩ = _ := cx 2 x2 (by omega) rfl
        have g3 : wr.cell? ⟨b, o + k * 6 + 3, none⟩ = _ := cx 3 x3 (by omega) rfl
        have g4 : wr.cell? ⟨b, o + k * 6 + 4, none⟩ = _ := cx 4 x4 (by omega) rfl
        have g5 : wr.cell? ⟨b, o + k * 6 + 5, none⟩ = _ := cx 5 x5 (by omega) rfl
        have HXD := Lib.hid hxd
        clear cx hxd hcl
        cases t
        · go_wp2_with fail
          go_roundw
          case rel =>
            refine ⟨k + 1, false, by omega, rfl, by go_num, ?_, hbr⟩
            have := HIFF.out
            constructor
            · intro h; cases h
            · intro h
              exact this.2 ⟨h.1, fun z hz => h.2 z (by rw [take_snoc6 rfl HXD.out]; exact List.mem_append_left _ hz)⟩
          case measure => simp [intOf]; omega
        · go_wp2_with (go_at_call 14; refine (right_any _ _ _ _ _ _ _).mono ?_; rintro e w5 ⟨rfl, hb5⟩)
          go_roundw
          case rel =>
            refine ⟨k + 1, decide (Good6 x0 x1 x2 x3 x4 x5), by omega, rfl, by go_num, ?_, below_trans hbr ‹Below _ _ w5›⟩
            have h1 := HIFF.out.1 (by simp)
            rw [decide_eq_true_iff]
            constructor
            · intro h; exact ⟨h1.1, bytes_six HXD.out h1.2 h⟩
            · intro h; exact good_of fun z hz => h.2 z (by rw [take_snoc6 rfl HXD.out]; exact List.mem_append_right _ hz)
          case measure => simp [intOf]; omega
      · have hkn' : k = n := by omega
        have hz : zs.take (k * 6) = zs := List.take_of_length_le (by rw [HLZ.out, hkn']; exact Nat.le_refl _)
        have HT := Lib.hid (show t = true ↔ n ≤ 300 ∧ Bytes zs by rw [← hz]; exact HIFF.out)
        clear hkn' hz
        obtain rfl : t = true := HT.out.2 ⟨h3, HBY.out⟩
        have hmul : ((n * 6 : Nat) : Int) = 6 * (n : Int) := by omega
        have heq : ((n : Int) * 6 == 6 * (n : Int)) = true := by rw [beq_iff_eq]; omega
        go_wp2_with fail
        refine (decode_any A2 (n * 6) c2 zs wr HBY.out (by omega) hnc2 hc2 (HV2.out.next hbr)).mono ?_
        rintro e w6 ⟨v6, rfl, hown6, hb6⟩
        have hev : evs (n * 6) = n := by unfold evs; omega
        rw [hev] at hown6
        obtain ⟨A6, c6, rfl, hnc6, hc6, hr6⟩ := own_shape2 hown6
        have hzt : zs.take (n * 6) = zs := List.take_of_length_le (by rw [HLZ.out]; exact Nat.le_refl _)
        rw [hzt] at hr6
        have HR6 := Lib.hid hr6
        have HEV := Lib.hid hev
        clear hown6 hr6 hev hzt
        try rw [HEV.out]
        go_wp2_with fail
        refine (same_any A6 A n n c6 c zs zs w6 (by omega) (by omega) HR6.out ((HR2.out.next hbr).next hb6)).mono ?_
        rintro e w7 ⟨rfl, hb7⟩
        have HD : Hid (decide (zs = zs) = true) := decide_eq_true rfl
        rw [HD.out]
        go_wp2_with fail
        go_ret
        exact ⟨rfl, below_trans (below_trans (below_trans (below_trans hb1 hb2) hbr) hb6) hb7⟩
  · have HR2 := Lib.hid (HR1.out.next hb2)
    go_wp2_with fail
    go_loopw [5, 22] (fun f i wr => ∃ (k : Nat) (t : Bool), k ≤ n ∧ f = .bool t ∧ i = .int .i64 k ∧ (t = true ↔ n ≤ 300 ∧ Bytes (zs.take (k * 6))) ∧ Below w2.heap.size w2 wr) (fun _ i _ => n - (intOf i).toNat)
    case atStart => exact ⟨0, decide ((n : Int) ≤ 300), by omega, rfl, rfl, ⟨fun h => ⟨by have := of_decide_eq_true h; omega, by intro z hz; simp at hz⟩, fun h => decide_eq_true (by omega)⟩, Below.refl _ _⟩
    case round =>
      obtain ⟨k, t, hk, rfl, rfl, hiff, hbr⟩ := hrel
      have HIFF := Lib.hid hiff
      clear hiff
      by_cases hkn : k < n
      · obtain ⟨x0, x1, x2, x3, x4, x5, hxd⟩ := six_at zs k (by rw [HLZ.out]; omega)
        obtain ⟨b, o, rfl, hbl, hcl⟩ := HR2.out.2 (by omega)
        have cx (i : Nat) (v : Int) (hi : i < 6) (hv : [x0, x1, x2, x3, x4, x5][i]? = some v) : wr.cell? ⟨b, o + (k * 6 + i), none⟩ = some (.int .i64 v) :=
          cell_on (hcl _ _ (by rw [List.getElem?_map, six_get hxd i hi, hv]; rfl)) hbr hbl
        have g0 : wr.cell? ⟨b, o + k * 6, none⟩ = _ := cx 0 x0 (by omega) rfl
        have g1 : wr.cell? ⟨b, o + k * 6 + 1, none⟩ = _ := cx 1 x1 (by omega) rfl
        have g2 : wr.cell? ⟨b, o + k * 6 + 2, none⟩ = _ := cx 2 x2 (by omega) rfl
        have g3 : wr.cell? ⟨b, o + k * 6 + 3, none⟩ = _ := cx 3 x3 (by omega) rfl
        have g4 : wr.cell? ⟨b, o + k * 6 + 4, none⟩ = _ := cx 4 x4 (by omega) rfl
        have g5 : wr.cell? ⟨b, o + k * 6 + 5, none⟩ = _ := cx 5 x5 (by omega) rfl
        have HXD := Lib.hid hxd
        clear cx hxd hcl
        cases t
        · go_wp2_with fail
          go_roundw
          case rel =>
            refine ⟨k + 1, false, by omega, rfl, by go_num, ?_, hbr⟩
            have := HIFF.out
            constructor
            · intro h; cases h
            · intro h
              exact this.2 ⟨h.1, fun z hz => h.2 z (by rw [take_snoc6 rfl HXD.out]; exact List.mem_append_left _ hz)⟩
          case measure => simp [intOf]; omega
        · go_wp2_with (go_at_call 14; refine (right_any _ _ _ _ _ _ _).mono ?_; rintro e w5 ⟨rfl, hb5⟩)
          go_roundw
          case rel =>
            refine ⟨k + 1, decide (Good6 x0 x1 x2 x3 x4 x5), by omega, rfl, by go_num, ?_, below_trans hbr ‹Below _ _ w5›⟩
            have h1 := HIFF.out.1 (by simp)
            rw [decide_eq_true_iff]
            constructor
            · intro h; exact ⟨h1.1, bytes_six HXD.out h1.2 h⟩
            · intro h; exact good_of fun z hz => h.2 z (by rw [take_snoc6 rfl HXD.out]; exact List.mem_append_right _ hz)
          case measure => simp [intOf]; omega
      · have hkn' : k = n := by omega
        have hz : zs.take (k * 6) = zs := List.take_of_length_le (by rw [HLZ.out, hkn']; exact Nat.le_refl _)
        have HT := Lib.hid (show t = true ↔ n ≤ 300 ∧ Bytes zs by rw [← hz]; exact HIFF.out)
        clear hkn' hz
        obtain rfl : t = false := by
          cases t
          · rfl
          · exact absurd (HT.out.1 rfl) hnot
        go_wp2_with fail
        go_ret
        exact ⟨rfl, below_trans (below_trans hb1 hb2) hbr⟩

set_option maxRecDepth 100000 in
theorem lifted (os : Os) (started : os.Started) (H : Type) (enc : TypeId × Value → H) :
    ReturnsInHanded {} Try.checked os 5 .any (Rows.scriptBytesSpec.pre6 enc Try.prog Try.f5 Rows.scriptBytesRow.domain false) (Rows.scriptBytesSpec.post enc Try.prog Try.f5 false true false false) := by
  refine returnsInHanded_of_change_sized (C := Try.checked) own started (by kernel_rfl) Try.func5
    (ChangeSpec.witness6 (enc := enc) (C := Try.checked) false ⟨#[], #[.slice none 0 0], []⟩ 8 (by kernel_rfl) (by kernel_rfl) (by kernel_rfl) (by kernel_rfl)) ?_
  intro W base args ds gs before hval0 hW _ hsz0 _
  have hsz : (DataW.weightsEach Try.prog (Try.f5.params.toList ++ Rows.scriptBytesSpec.plain.varTypes Try.prog) (ds ++ gs)).all (· ≤ reachBytes) = true := hsz0
  have hval : ∀ (j : Nat) t v, Try.f5.params[j]? = some t → args[j]? = some v → Value.okWide Try.prog W .any base t v := hval0
  have hW' := hW
  obtain ⟨p, q, hA0, hV, rfl, _, _⟩ := hW
  have hA : DataW.TrodAll enc Try.prog W 0 (fun _ => true) true Try.f5.params.toList args.toList ds p := hA0
  rw [Try.params5] at hA hval hsz
  obtain ⟨v0, d0, rfl, rfl, h0⟩ := trodAll_one hA
  obtain ⟨rfl, _⟩ := trodVars_none hV
  have hC : Try.prog.cellsOf 23 = 6 := by kernel_rfl
  obtain ⟨A, n, c, xs, rfl, hnc, hc, hr, hd, hall⟩ := open_rd Try.underlying33 (by rw [hC]; omega) (hval 0 _ v0 rfl rfl) h0
  obtain ⟨zs, rfl, _⟩ := rd_int_fields (k := .i64) Try.underlying23 (by kernel_rfl) hC hr.1 (by simp) (fun q ft h => by
    have hq : q < 6 := by have := (Array.getElem?_eq_some_iff.1 h).1; simpa using this
    rcases (show q = 0 ∨ q = 1 ∨ q = 2 ∨ q = 3 ∨ q = 4 ∨ q = 5 by omega) with rfl | rfl | rfl | rfl | rfl | rfl
    all_goals
      obtain rfl := Option.some.inj h
      exact Try.underlying3) hall
  rw [hC] at hr
  refine (bytes_any A n c zs W hnc hc hr).mono fun en W' ⟨he, hb⟩ => ?_
  subst he
  exact ⟨_, rfl, law_post (tb := 4) laidOut hW' rfl rfl rfl rfl Try.underlying4 (by intro t ht; revert t; exact of_decide_eq_true (by kernel_rfl)) (by kernel_rfl) hb⟩

theorem proved : Rows.ScriptBytesSaid :=
  OpenClaim.holds_of_wide 5 Try.f5 rfl rfl rfl rfl rfl rfl rfl ⟨rfl, rfl, rfl, rfl, rfl⟩ rfl rfl rfl rfl rfl (by kernel_rfl) Try.func5 (by kernel_rfl)
    (of_decide_eq_true (by kernel_rfl)) (by unfold Func.isWrapper; first | (rw [if_pos (by decide +kernel)]; kernel_rfl) | (rw [if_neg (by decide +kernel)]; exact ⟨rfl, rfl⟩))
    (fun os started H enc _ => lifted os started H enc)
#print axioms proved
end Go.Proofs.Ytdagjjicejhplaa.ScrBytes
