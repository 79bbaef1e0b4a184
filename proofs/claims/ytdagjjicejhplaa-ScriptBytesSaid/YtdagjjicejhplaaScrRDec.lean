/- Walk of the reference's Decode: of n bytes it makes min(300, n/6) events, each of six of them. -/
import Derived.Test.YtdagjjicejhplaaScrDec
import Derived.Deep.RegionHeld3
namespace Go.Proofs.Ytdagjjicejhplaa
set_option linter.unusedVariables false
set_option linter.unusedSimpArgs false
open Go.RowKit Base

set_option maxHeartbeats 4000000 in
set_option maxRecDepth 100000 in
theorem rdecode_any (A : Option Addr) (n c : Nat) (zs : List Int) (w : World) (hz : ∀ z ∈ zs, 0 ≤ z ∧ z ≤ 255) (hn : n ≤ 140737488351232) (hnc : n ≤ c) (hc : c ≤ maxLen)
    (hr : Rd w w.heap.size 1 A n (zs.map (Value.int .u8))) :
    Calls Try.prog 12 #[.slice A n c] w fun e w' => ∃ v, e = .returned v ∧ w'.ownsRow w.heap.size 23 6 v (evs n) ((zs.take (evs n * 6)).map (Value.int .i64)) ∧ Below w.heap.size w w' := by
  have hlz : zs.length = n := by simpa using hr.1
  have HLZ := Lib.hid hlz
  have HR := Lib.hid hr
  clear hlz hr
  go_enter Try.func12, Try.ntmps12
  go_wp2
  go_loopw [3, 4] (fun o i wr => ∃ k : Nat, k ≤ 300 ∧ 6 * k ≤ n ∧ i = .int .i64 k ∧ wr.ownsRow w.heap.size 23 6 o k ((zs.take (k * 6)).map (Value.int .i64)) ∧ Below w.heap.size w wr)
    (fun _ i _ => 300 - (intOf i).toNat)
  case atStart => exact ⟨0, by omega, by omega, rfl, World.ownsRow_made _ _ _ (by simp) (by unfold maxLen; omega) (by simp), (Below.refl _ _).alloc (Nat.le_refl _) _⟩
  case round =>
    obtain ⟨k, hk, hkn, rfl, hown, hb⟩ := hrel
    obtain ⟨A3, c3, rfl, _⟩ := own_shape hown
    have hsz : w.heap.size ≤ wr.heap.size := hb.size
    have HOWN := Lib.hid hown
    clear hown
    by_cases hk3 : k < 300
    · by_cases h6 : 6 * k + 6 ≤ n
      · have hd : decide ((6 : Int) * k + 6 ≤ n) = true := by simp; omega
        have hd3 : decide ((k : Int) < 300) = true := by simp; omega
        obtain ⟨z0, z1, z2, z3, z4, z5, hzd⟩ := six_at zs k (by rw [HLZ.out]; omega)
        obtain ⟨b, o, rfl, hbl, hcl⟩ := HR.out.2 (by omega)
        have hcell (W : World) (hW : Below w.heap.size w W) (i : Nat) (v : Int) (hi : i < 6) (hv : [z0, z1, z2, z3, z4, z5][i]? = some v) : W.cell? ⟨b, o + (k * 6 + i), none⟩ = some (.int .u8 v) :=
          cell_on (hcl _ _ (by rw [List.getElem?_map, six_get hzd i hi, hv]; rfl)) hW hbl
        have hb255 (i : Nat) (v : Int) (hi : i < 6) (hv : [z0, z1, z2, z3, z4, z5][i]? = some v) : 0 ≤ v ∧ v ≤ 255 := hz v (by
          have := six_get hzd i hi; rw [hv] at this; exact List.mem_of_getElem? this)
        have sC (W : World) (hW : Below w.heap.size w W) : W.cell? ⟨b, o + 6 * k, none⟩ = some (.int .u8 z0) ∧ W.cell? ⟨b, o + 6 * k + 1, none⟩ = some (.int .u8 z1) ∧ W.cell? ⟨b, o + 6 * k + 2, none⟩ = some (.int .u8 z2) ∧
            W.cell? ⟨b, o + 6 * k + 3, none⟩ = some (.int .u8 z3) ∧ W.cell? ⟨b, o + 6 * k + 4, none⟩ = some (.int .u8 z4) ∧ W.cell? ⟨b, o + 6 * k + 5, none⟩ = some (.int .u8 z5) := by
          rw [show o + 6 * k = o + k * 6 by omega]
          exact ⟨hcell W hW 0 z0 (by omega) rfl, hcell W hW 1 z1 (by omega) rfl, hcell W hW 2 z2 (by omega) rfl, hcell W hW 3 z3 (by omega) rfl, hcell W hW 4 z4 (by omega) rfl, hcell W hW 5 z5 (by omega) rfl⟩
        obtain ⟨p0, q0⟩ := hb255 0 z0 (by omega) rfl
        obtain ⟨p1, q1⟩ := hb255 1 z1 (by omega) rfl
        obtain ⟨p2, q2⟩ := hb255 2 z2 (by omega) rfl
        obtain ⟨p3, q3⟩ := hb255 3 z3 (by omega) rfl
        obtain ⟨p4, q4⟩ := hb255 4 z4 (by omega) rfl
        obtain ⟨p5, q5⟩ := hb255 5 z5 (by omega) rfl
        have v0 := IntWalk.i64_in z0 ⟨by omega, by omega⟩
        have v1 := IntWalk.i64_in z1 ⟨by omega, by omega⟩
        have v2 := IntWalk.i64_in z2 ⟨by omega, by omega⟩
        have v3 := IntWalk.i64_in z3 ⟨by omega, by omega⟩
        have v4 := IntWalk.i64_in z4 ⟨by omega, by omega⟩
        have v5 := IntWalk.i64_in z5 ⟨by omega, by omega⟩
        obtain ⟨g0, g1, g2, g3, g4, g5⟩ := sC wr hb
        have SC := Lib.hid sC
        have HZD := Lib.hid hzd
        have h66 : 6 * k + 6 - 6 * k = 6 := by omega
        clear hcell hb255 sC hcl hzd
        go_wp2
        go_region_held3 (fun W => W.cell? ⟨b, o + 6 * k, none⟩ = some (.int .u8 z0) ∧ W.cell? ⟨b, o + 6 * k + 1, none⟩ = some (.int .u8 z1) ∧ W.cell? ⟨b, o + 6 * k + 2, none⟩ = some (.int .u8 z2) ∧
            W.cell? ⟨b, o + 6 * k + 3, none⟩ = some (.int .u8 z3) ∧ W.cell? ⟨b, o + 6 * k + 4, none⟩ = some (.int .u8 z4) ∧ W.cell? ⟨b, o + 6 * k + 5, none⟩ = some (.int .u8 z5))
          (first | (simp [*]; done) | exact SC.out _ hb.drew | exact SC.out _ (hb.drew.alloc hsz _) | exact SC.out _ (by assumption))
          (go_loud (refine step_app (news := [.int .i64 z0, .int .i64 z1, .int .i64 z2, .int .i64 z3, .int .i64 z4, .int .i64 z5]) elem_op rfl (.tmp 26) (.tmp 52) rfl rfl (HOWN.out.alloc _).drew rfl ?_ ?_ ?_ ?_ ?_ ?_; (focus exact Rd.drew (Rd.new _ _ _ (by simp) (by rfl))); (focus (simp [Value.oneCell'])); (focus omega); (focus (unfold maxLen; omega)); (focus (simp; omega)); intro v' w1 hown1 hgr hbel; have hb1 : Below w.heap.size w w1 := hbel _ _ (hb.alloc hsz _).drew (Nat.le_refl _)))
        all_goals
          go_wp2
          go_roundw
          case rel =>
            refine ⟨k + 1, by omega, by omega, by go_num, ?_, by assumption⟩
            rw [take_snoc6 rfl HZD.out, List.map_append]
            assumption
          case measure => simp [intOf]; omega
      · have hd : decide ((6 : Int) * k + 6 ≤ n) = false := by simp; omega
        have hd3 : decide ((k : Int) < 300) = true := by simp; omega
        have HEV := Lib.hid (show evs n = k by unfold evs; omega)
        go_wp2
        go_ret
        exact ⟨_, rfl, by rw [HEV.out]; exact HOWN.out, hb⟩
    · have hd3 : decide ((k : Int) < 300) = false := by simp; omega
      have HEV := Lib.hid (show evs n = k by unfold evs; omega)
      go_wp2
      go_ret
      exact ⟨_, rfl, by rw [HEV.out]; exact HOWN.out, hb⟩
end Go.Proofs.Ytdagjjicejhplaa
