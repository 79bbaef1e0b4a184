/- LeaseGood: whoever is good now has been answered by each other region what was asked for less than Lease ago. No condition. -/
import Derived.Test.YtadbaohcniggmaaLeaseA
import Derived.Test.YtadbaohcniggmaaBase2
import Derived.Deep.RegionHeld3
namespace Go.Proofs.Ytadbaohcniggmaa.LeaseGd
set_option linter.unusedVariables false
set_option linter.unusedSimpArgs false
open Go.ChangeShapes Go.WideShapes Go.ChangeAt Go.RowKit Base

/-- Row j of a script of three numbers a row. -/
def Row3 (zs : List Int) (j : Nat) (a b c : Int) : Prop := zs[j * 3]? = some a ∧ zs[j * 3 + 1]? = some b ∧ zs[j * 3 + 2]? = some c
/-- Was region r answered, by one of the first k rows, what ends at t? -/
def Told (zs : List Int) (k : Nat) (r t : Int) : Prop := ∃ j a b c, j < k ∧ Row3 zs j a b c ∧ a = r ∧ 0 ≤ b ∧ b ≤ c ∧ c ≤ 1099511627776 ∧ t = b + 12
/-- Each lease is none, or one that was told. -/
def Inv (zs : List Int) (k : Nat) (u : List Int) : Prop := ∀ (r : Nat) t, u[r]? = some t → t = 0 ∨ Told zs k r t

theorem Told.mono {zs : List Int} {k k' : Nat} {r t : Int} (h : Told zs k r t) (hk : k ≤ k') : Told zs k' r t := by
  obtain ⟨j, a, b, c, hj, rest⟩ := h
  exact ⟨j, a, b, c, by omega, rest⟩
theorem inv_bd {zs : List Int} {k : Nat} {u : List Int} (h : Inv zs k u) : ∀ t ∈ u, -9223372036854775808 ≤ t ∧ t ≤ 9223372036854775807 := by
  intro t ht
  obtain ⟨i, hi⟩ := List.getElem?_of_mem ht
  rcases h i t hi with rfl | ⟨_, a, b, c, _, _, _, _, _, _, rfl⟩ <;> omega
theorem inv_step {zs : List Int} {k : Nat} {u : List Int} {n a b c : Int} (h : Inv zs k u) (hr : Row3 zs k a b c) : Inv zs (k + 1) (grantU 1 n u a b c) := by
  intro r t ht
  unfold grantU at ht
  split at ht
  · rename_i hg
    unfold grantB isB at hg
    simp at hg
    rw [List.getElem?_set] at ht
    split at ht
    · rename_i he
      split at ht
      · right
        refine ⟨k, a, b, c, by omega, hr, by omega, by omega, by omega, by omega, (Option.some.inj ht).symm⟩
      · cases ht
    · rcases h r t ht with h | h
      · exact Or.inl h
      · exact Or.inr (h.mono (by omega))
  · rcases h r t ht with h | h
    · exact Or.inl h
    · exact Or.inr (h.mono (by omega))
theorem inv_zero (zs : List Int) : Inv zs 0 zeros17 := by
  intro r t h
  left
  unfold zeros17 at h
  rw [List.getElem?_replicate] at h
  split at h
  · exact (Option.some.inj h).symm
  · cases h
theorem row3_of {zs : List Int} {m j : Nat} (hl : zs.length = m * 3) (hj : j < m) : ∃ a b c, Row3 zs j a b c :=
  ⟨zs[j * 3], zs[j * 3 + 1], zs[j * 3 + 2], List.getElem?_eq_getElem (by omega), List.getElem?_eq_getElem (by omega), List.getElem?_eq_getElem (by omega)⟩

/-- Row j answers region r by what holds now. -/
def Cond (zs : List Int) (now : Int) (j : Nat) (r : Int) : Prop := ∃ a b c, Row3 zs j a b c ∧ a = r ∧ 0 ≤ b ∧ b ≤ c ∧ c ≤ 1099511627776 ∧ now < b + 12
theorem told_all {zs : List Int} {k : Nat} {u : List Int} {n now : Int} (hu : u.length = 17) (hn : n ≤ 16) (hinv : Inv zs k u) (hg : ∀ (r : Nat) t, u[r]? = some t → badB 1 n now r t = false) (r : Int) (h1 : 1 ≤ r) (h2 : r ≤ n) : r = 1 ∨ ∃ j, j < k ∧ Cond zs now j r := by
  by_cases hr : r = 1
  · exact Or.inl hr
  · right
    obtain ⟨q, rfl⟩ : ∃ q : Nat, r = q := ⟨r.toNat, by omega⟩
    have hq : u[q]? = some (u[q]'(by omega)) := List.getElem?_eq_getElem _
    have hb := hg q _ hq
    unfold badB isB at hb
    rw [decide_eq_true (show 1 ≤ (q : Int) ∧ (q : Int) ≤ n ∧ (q : Int) ≠ 1 from ⟨h1, h2, hr⟩)] at hb
    simp at hb
    rcases hinv q _ hq with h0 | ⟨j, a, b, c, hj, hrow, ha, hb0, hbc, hc, ht⟩
    · omega
    · exact ⟨j, hj, a, b, c, hrow, ha, hb0, hbc, hc, by omega⟩
theorem cond_of {zs : List Int} {now : Int} {j : Nat} {r a b c : Int} (hrow : Row3 zs j a b c) (h : Cond zs now j r) : a = r ∧ 0 ≤ b ∧ b ≤ c ∧ c ≤ 1099511627776 ∧ now < b + 12 := by
  obtain ⟨a', b', c', hrow', h⟩ := h
  obtain ⟨x1, x2, x3⟩ := hrow
  obtain ⟨y1, y2, y3⟩ := hrow'
  rw [x1] at y1; rw [x2] at y2; rw [x3] at y3
  obtain rfl := Option.some.inj y1
  obtain rfl := Option.some.inj y2
  obtain rfl := Option.some.inj y3
  exact h

set_option maxHeartbeats 16000000 in
set_option maxRecDepth 100000 in
theorem good_any (n now : Int) (A : Option Addr) (m c : Nat) (zs : List Int) (w : World) (hm : m ≤ 140737488351232) (hr : Rd w w.heap.size 3 A m (zs.map (Value.int .i64))) :
    Calls Try.prog 3 #[.int .i64 n, .slice A m c, .int .i64 now] w fun en w' => en = .returned (.bool true) ∧ Below w.heap.size w w' := by
  have hlz : zs.length = m * 3 := by simpa using hr.1
  have HLZ := Lib.hid hlz
  have HR := Lib.hid hr
  clear hlz hr
  go_enter Try.func3, Try.ntmps3
  go_wp2_with fail
  refine (awake_any w).mono ?_
  rintro e w1 ⟨rfl, hb1⟩
  have HR1 := Lib.hid (HR.out.next hb1)
  go_wp2_with fail
  refine (new_any 1 n w1).mono ?_
  rintro e w2 (⟨⟨hn1, hn2, _, _⟩, p, rfl, hp, hL, hb2⟩ | ⟨hn, v, rfl, hw2, hb2⟩)
  · have HL := Lib.hid hL
    clear hL
    have hb02 : Below w.heap.size w w2 := below_trans hb1 hb2
    have hp0 : w.heap.size ≤ p := Nat.le_trans hb1.size hp
    have hlt2 : p < w2.heap.size := HL.out.1.lt
    obtain ⟨K, hK⟩ : ∃ K : Nat, K = min m 200 := ⟨_, rfl⟩
    have hKm : K ≤ m := by omega
    have hmin : (if (200 : Int) < (m : Int) then (200 : Int) else (m : Int)) = (K : Int) := by split <;> omega
    have HK := Lib.hid hK
    clear hK
    go_wp2_with fail
    go_loopw [10] (fun i wr => ∃ (k : Nat) (u : List Int), k ≤ K ∧ i = .int .i64 k ∧ LeaseAt wr p 1 n u ∧ Inv zs k u ∧ Below w.heap.size w wr) (fun i _ => K - (intOf i).toNat)
    case atStart => exact ⟨0, zeros17, by omega, rfl, HL.out, inv_zero zs, hb02⟩
    case round =>
      obtain ⟨k, u, hk, rfl, hLr, hinv, hbr⟩ := hrel
      have HLr := Lib.hid hLr
      have HINV := Lib.hid hinv
      clear hLr hinv
      by_cases hkK : k < K
      · obtain ⟨a, b, c', hrow⟩ := row3_of HLZ.out (show k < m by omega)
        obtain ⟨bs, os, rfl, hbl, hcl⟩ := HR.out.2 (by omega)
        have sC (W : World) (hW : Below w.heap.size w W) : W.cell? ⟨bs, os + k * 3, none⟩ = some (.int .i64 a) ∧ W.cell? ⟨bs, os + k * 3 + 1, none⟩ = some (.int .i64 b) ∧ W.cell? ⟨bs, os + k * 3 + 2, none⟩ = some (.int .i64 c') := by
          refine ⟨cell_on (hcl (k * 3) _ (by rw [List.getElem?_map, hrow.1]; rfl)) hW hbl, cell_on (hcl (k * 3 + 1) _ (by rw [List.getElem?_map, hrow.2.1]; rfl)) hW hbl, cell_on (hcl (k * 3 + 2) _ (by rw [List.getElem?_map, hrow.2.2]; rfl)) hW hbl⟩
        obtain ⟨g0, g1, g2⟩ := sC wr hbr
        have SC := Lib.hid sC
        have HROW := Lib.hid hrow
        clear sC hrow hcl
        have i0 : (0 : Int) ≤ k := by omega
        have i1 : (k : Int) < m := by omega
        go_wp2_with fail
        go_region_held3 (fun W => W.cell? ⟨bs, os + k * 3, none⟩ = some (.int .i64 a) ∧ W.cell? ⟨bs, os + k * 3 + 1, none⟩ = some (.int .i64 b) ∧ W.cell? ⟨bs, os + k * 3 + 2, none⟩ = some (.int .i64 c'))
          (first | (simp [*]; done) | exact SC.out _ (by assumption))
          (go_loud (go_at_call 8; refine (grant_some p 1 n _ _ _ u _ (show LeaseAt wr.drew p 1 n u from HLr.out) hn2 (inv_bd HINV.out)).mono ?_; rintro e w5 ⟨he, hL5, ho5⟩; subst he; have hb5 : Below w.heap.size w w5 := Only.below ho5 hbr.drew hp0 hbr.size))
        all_goals
          go_wp2_with fail
          go_roundw
          case rel => exact ⟨k + 1, _, by omega, by go_num, by assumption, inv_step HINV.out HROW.out, by assumption⟩
          case measure => simp [intOf]; omega
      · obtain rfl : k = K := by omega
        go_wp2_with fail
        refine (good_some p 1 n now u wr HLr.out (inv_bd HINV.out)).mono ?_
        rintro e w6 ⟨hb6, (⟨hg, rfl⟩ | ⟨r, t, _, _, _, v, rfl, hw⟩)⟩
        · go_wp2_with fail
          have hb06 : Below w.heap.size w w6 := hbr.trans (hb6.mono hbr.size)
          have TOLD := Lib.hid (told_all HLr.out.2 hn2 HINV.out hg)
          clear hg
          go_loopw [11] (fun rr wr' => ∃ r : Int, rr = .int .i64 r ∧ 1 ≤ r ∧ r ≤ n + 1 ∧ Below w.heap.size w wr') (fun rr _ => (n + 1 - intOf rr).toNat)
          case atStart => exact ⟨1, rfl, by omega, by omega, hb06⟩
          case round =>
            obtain ⟨r, rfl, hr1, hr2, hbq⟩ := hrel
            by_cases hrn : r ≤ n
            · obtain ⟨t0, ht0⟩ : ∃ t0 : Bool, (r == 1) = t0 := ⟨_, rfl⟩
              have HT0 := Lib.hid (show r = 1 → t0 = true by rw [← ht0]; intro h; simpa using h)
              go_wp2_with fail
              obtain ⟨wo, hwo⟩ : ∃ wo : World, wo = wr := ⟨_, rfl⟩
              go_loopw [12, 13] (fun tl i wq => ∃ (j : Nat) (t : Bool), j ≤ k ∧ tl = .bool t ∧ i = .int .i64 j ∧ ((r = 1 ∨ ∃ q, q < j ∧ Cond zs now q r) → t = true) ∧ Below w.heap.size w wq) (fun _ i _ => k - (intOf i).toNat)
              case atStart => exact ⟨0, t0, by omega, rfl, rfl, fun h => by rcases h with h | ⟨q, hq, _⟩; exact HT0.out h; omega, hbq⟩
              case round =>
                obtain ⟨j, t, hj, rfl, rfl, himp, hbz⟩ := hrel
                have HIMP := Lib.hid himp
                clear himp
                by_cases hjk : j < k
                · obtain ⟨a, b, c', hrow⟩ := row3_of HLZ.out (show j < m by omega)
                  obtain ⟨bs, os, rfl, hbl, hcl⟩ := HR.out.2 (by omega)
                  have g0 : wr.cell? ⟨bs, os + j * 3, none⟩ = some (.int .i64 a) := cell_on (hcl (j * 3) _ (by rw [List.getElem?_map, hrow.1]; rfl)) hbz hbl
                  have g1 : wr.cell? ⟨bs, os + j * 3 + 1, none⟩ = some (.int .i64 b) := cell_on (hcl (j * 3 + 1) _ (by rw [List.getElem?_map, hrow.2.1]; rfl)) hbz hbl
                  have g2 : wr.cell? ⟨bs, os + j * 3 + 2, none⟩ = some (.int .i64 c') := cell_on (hcl (j * 3 + 2) _ (by rw [List.getElem?_map, hrow.2.2]; rfl)) hbz hbl
                  have HROW := Lib.hid hrow
                  clear hrow hcl
                  cases t
                  · by_cases c1 : a = r
                    · have c1' : (a == r) = true := by simpa using c1
                      clear c1
                      by_cases c2 : 0 ≤ b
                      · skip
                        by_cases c3 : b ≤ c'
                        · skip
                          by_cases c4 : c' ≤ 1099511627776
                          · skip
                            by_cases c5 : now < b + 12
                            · skip
                              go_wp2_with fail
                              go_roundw
                              case rel =>
                                refine ⟨j + 1, true, by omega, rfl, by go_num, ?_, hbz.alloc hbz.size _⟩
                                exact fun _ => rfl
                              case measure => simp [intOf]; omega
                            · skip
                              go_wp2_with fail
                              go_roundw
                              case rel =>
                                refine ⟨j + 1, false, by omega, rfl, by go_num, ?_, hbz.alloc hbz.size _⟩
                                intro h; rcases h with h | ⟨q, hq, hc⟩
                                · exact HIMP.out (Or.inl h)
                                · rcases Nat.lt_succ_iff_lt_or_eq.1 hq with hq | rfl
                                  · exact HIMP.out (Or.inr ⟨q, hq, hc⟩)
                                  · have := cond_of HROW.out hc; omega
                              case measure => simp [intOf]; omega
                          · skip
                            go_wp2_with fail
                            go_roundw
                            case rel =>
                              refine ⟨j + 1, false, by omega, rfl, by go_num, ?_, hbz.alloc hbz.size _⟩
                              intro h; rcases h with h | ⟨q, hq, hc⟩
                              · exact HIMP.out (Or.inl h)
                              · rcases Nat.lt_succ_iff_lt_or_eq.1 hq with hq | rfl
                                · exact HIMP.out (Or.inr ⟨q, hq, hc⟩)
                                · have := cond_of HROW.out hc; omega
                            case measure => simp [intOf]; omega
                        · skip
                          go_wp2_with fail
                          go_roundw
                          case rel =>
                            refine ⟨j + 1, false, by omega, rfl, by go_num, ?_, hbz.alloc hbz.size _⟩
                            intro h; rcases h with h | ⟨q, hq, hc⟩
                            · exact HIMP.out (Or.inl h)
                            · rcases Nat.lt_succ_iff_lt_or_eq.1 hq with hq | rfl
                              · exact HIMP.out (Or.inr ⟨q, hq, hc⟩)
                              · have := cond_of HROW.out hc; omega
                          case measure => simp [intOf]; omega
                      · skip
                        go_wp2_with fail
                        go_roundw
                        case rel =>
                          refine ⟨j + 1, false, by omega, rfl, by go_num, ?_, hbz.alloc hbz.size _⟩
                          intro h; rcases h with h | ⟨q, hq, hc⟩
                          · exact HIMP.out (Or.inl h)
                          · rcases Nat.lt_succ_iff_lt_or_eq.1 hq with hq | rfl
                            · exact HIMP.out (Or.inr ⟨q, hq, hc⟩)
                            · have := cond_of HROW.out hc; omega
                        case measure => simp [intOf]; omega
                    · have c1' : (a == r) = false := by simpa using c1
                      have C1 := Lib.hid c1
                      clear c1
                      go_wp2_with fail
                      go_roundw
                      case rel =>
                        refine ⟨j + 1, false, by omega, rfl, by go_num, ?_, hbz.alloc hbz.size _⟩
                        intro h; rcases h with h | ⟨q, hq, hc⟩
                        · exact HIMP.out (Or.inl h)
                        · rcases Nat.lt_succ_iff_lt_or_eq.1 hq with hq | rfl
                          · exact HIMP.out (Or.inr ⟨q, hq, hc⟩)
                          · exact absurd (cond_of HROW.out hc).1 C1.out
                      case measure => simp [intOf]; omega
                  · skip
                    go_wp2_with fail
                    go_roundw
                    case rel =>
                      refine ⟨j + 1, true, by omega, rfl, by go_num, ?_, hbz.alloc hbz.size _⟩
                      exact fun _ => rfl
                    case measure => simp [intOf]; omega
                · obtain rfl : j = k := by omega
                  obtain rfl : t = true := HIMP.out (by rcases TOLD.out r hr1 hrn with h | h; exact Or.inl h; exact Or.inr h)
                  go_wp2_with fail
                  go_roundw
                  case rel => exact ⟨r + 1, by go_num, by omega, by omega, hbz⟩
                  case measure => simp [intOf]; omega
            · go_wp2_with fail
              go_ret
              exact ⟨rfl, hbq⟩
        · obtain ⟨b, rfl, _⟩ := hw
          go_wp2_with fail
          go_ret
          exact ⟨rfl, hbr.trans (hb6.mono hbr.size)⟩
  · obtain ⟨b, rfl, hB⟩ := hw2
    clear hB
    go_wp2_with fail
    go_ret
    exact ⟨rfl, below_trans hb1 hb2⟩
set_option maxRecDepth 100000 in
theorem liftedLeaseGood (os : Os) (started : os.Started) (H : Type) (enc : TypeId × Value → H) :
    ReturnsInHanded {} Try.checked os 3 .any (Rows.leaseGoodSpec.pre6 enc Try.prog Try.f3 Rows.leaseGoodRow.domain false) (Rows.leaseGoodSpec.post enc Try.prog Try.f3 false true false false) := by
  refine returnsInHanded_of_change_sized (C := Try.checked) own started (by kernel_rfl) Try.func3
    (ChangeSpec.witness6 (enc := enc) (C := Try.checked) false ⟨#[], #[.int .i64 0, .slice none 0 0, .int .i64 0], []⟩ 8 (by kernel_rfl) (by kernel_rfl) (by kernel_rfl) (by kernel_rfl)) ?_
  intro W base args ds gs before hval0 hW _ hsz0 _
  have hsz : (DataW.weightsEach Try.prog (Try.f3.params.toList ++ Rows.leaseGoodSpec.plain.varTypes Try.prog) (ds ++ gs)).all (· ≤ reachBytes) = true := hsz0
  have hval : ∀ (j : Nat) t v, Try.f3.params[j]? = some t → args[j]? = some v → Value.okWide Try.prog W .any base t v := hval0
  have hW' := hW
  obtain ⟨p, q, hA0, hV, rfl, _, _⟩ := hW
  have hA : DataW.TrodAll enc Try.prog W 0 (fun _ => true) true Try.f3.params.toList args.toList ds p := hA0
  rw [Try.params3] at hA hval hsz
  obtain ⟨v0, v1, v2, d0, d1, d2, p0, p1, p2, rfl, rfl, rfl, h0, h1, h2⟩ := trodAll_three hA
  obtain ⟨rfl, _⟩ := trodVars_none hV
  obtain ⟨a0, rfl, rfl, rfl, w0⟩ := open_int Try.underlying3 (hval 0 _ v0 rfl rfl) h0
  have hC1 : Try.prog.cellsOf 30 = 3 := by kernel_rfl
  obtain ⟨A1, n1, c1, xs1, rfl, hnc1, hc1, hr1, hd1, hall1⟩ := open_rd Try.underlying22 (by rw [hC1]; omega) (hval 1 _ v1 rfl rfl) h1
  obtain ⟨a2, rfl, rfl, rfl, w2⟩ := open_int Try.underlying3 (hval 2 _ v2 rfl rfl) h2
  obtain ⟨zs, rfl, _⟩ := rd_arr_ints (k := .i64) Try.underlying30 Try.underlying3 hC1 (by kernel_rfl) hr1.1 (by omega) hall1
  rw [hC1] at hr1
  have hreach : n1 ≤ 140737488351232 := by
    rcases hd1 with rfl | ⟨el, sp, rfl, hlen⟩
    · omega
    · have := sized_slice hsz (j := 1) (t := 22) (e := 30) rfl rfl Try.underlying22
      rw [show Try.prog.bytesOf 30 = 24 from by kernel_rfl] at this
      simp only [reachBytes] at this
      omega
  refine (good_any a0 a2 A1 n1 c1 zs W hreach hr1 ).mono fun en W' ⟨he, hb⟩ => ?_
  subst he
  exact ⟨_, rfl, law_post (tb := 4) laidOut hW' rfl rfl rfl rfl Try.underlying4 (by intro t ht; revert t; exact of_decide_eq_true (by kernel_rfl)) (by kernel_rfl) hb⟩

theorem provedLeaseGood : Rows.LeaseGoodSaid :=
  OpenClaim.holds_of_wide 3 Try.f3 rfl rfl rfl rfl rfl rfl rfl ⟨rfl, rfl, rfl, rfl, rfl⟩ rfl rfl rfl rfl rfl (by kernel_rfl) Try.func3 (by kernel_rfl)
    (of_decide_eq_true (by kernel_rfl)) (by unfold Func.isWrapper; first | (rw [if_pos (by decide +kernel)]; kernel_rfl) | (rw [if_neg (by decide +kernel)]; exact ⟨rfl, rfl⟩))
    (fun os started H enc _ => liftedLeaseGood os started H enc)
#print axioms provedLeaseGood

end Go.Proofs.Ytadbaohcniggmaa.LeaseGd
