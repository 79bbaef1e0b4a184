/- Walks of script.Decode and of the reference's Decode: of n bytes both make min(300, n/6) events, each of six of them. -/
import Derived.Test.YtdagjjicejhplaaScrSame
import Derived.Deep.LoopGhost
import Derived.Deep.DeepMust
namespace Go.Proofs.Ytdagjjicejhplaa
set_option linter.unusedVariables false
set_option linter.unusedSimpArgs false
open Go.RowKit Base

theorem info_op : (Try.prog.info? 23).map (fun i => (i.zero, i.size, i.bytes)) = some (some (.agg #[.int .i64 0, .int .i64 0, .int .i64 0, .int .i64 0, .int .i64 0, .int .i64 0]), 6, 48) := by kernel_rfl

theorem elem_op : Elem Try.prog 33 23 (.agg #[.int .i64 0, .int .i64 0, .int .i64 0, .int .i64 0, .int .i64 0, .int .i64 0]) 6 48 :=
  ⟨Try.underlying33, info_parts info_op, rfl, by decide⟩

/-- How many events n bytes are. -/
def evs (n : Nat) : Nat := min 300 (n / 6)

theorem take_snoc6 {zs : List Int} {k : Nat} {l : List Int} (hl : l.length = 6) (hx : zs.drop (k * 6) = l ++ zs.drop ((k + 1) * 6)) : zs.take ((k + 1) * 6) = zs.take (k * 6) ++ l := by
  rw [show (k + 1) * 6 = k * 6 + 6 by omega, List.take_add, hx, List.take_left' hl]

set_option maxHeartbeats 4000000 in
set_option maxRecDepth 100000 in
theorem decode_any (A : Option Addr) (n c : Nat) (zs : List Int) (w : World) (hz : ∀ z ∈ zs, 0 ≤ z ∧ z ≤ 255) (hn : n ≤ 140737488351232) (hnc : n ≤ c) (hc : c ≤ maxLen)
    (hr : Rd w w.heap.size 1 A n (zs.map (Value.int .u8))) :
    Calls Try.prog 11 #[.slice A n c] w fun e w' => ∃ v, e = .returned v ∧ w'.ownsRow w.heap.size 23 6 v (evs n) ((zs.take (evs n * 6)).map (Value.int .i64)) ∧ Below w.heap.size w w' := by
  have hlz : zs.length = n := by simpa using hr.1
  have HLZ := Lib.hid hlz
  clear hlz
  go_enter Try.func11, Try.ntmps11
  go_wp2
  go_loopw [0, 3] (fun s o wr => ∃ (k m c' : Nat) (A' : Option Addr), k ≤ 300 ∧ n = k * 6 + m ∧ m ≤ c' ∧ c' ≤ maxLen ∧ s = .slice A' m c' ∧ Rd wr w.heap.size 1 A' m ((zs.drop (k * 6)).map (Value.int .u8)) ∧ wr.ownsRow w.heap.size 23 6 o k ((zs.take (k * 6)).map (Value.int .i64)) ∧ Below w.heap.size w wr)
    (fun s _ _ => lenOf s)
  case atStart => exact ⟨0, n, c, A, by omega, by omega, hnc, hc, rfl, by simpa using hr, World.ownsRow_nil _ _ _ _, Below.refl _ _⟩
  case round =>
    obtain ⟨k, m, c', A', hk, hnm, hmc, hc', rfl, hrd, hown, hb⟩ := hrel
    have HNM := Lib.hid hnm
    clear hnm hr
    have hsz : w.heap.size ≤ wr.heap.size := hb.size
    by_cases h6 : 6 ≤ m
    · by_cases hk3 : k < 300
      · obtain ⟨z0, z1, z2, z3, z4, z5, hzd⟩ := six_at zs k (by rw [HLZ.out, HNM.out]; omega)
        obtain ⟨b, o, rfl, hbl0, hcl⟩ := hrd.2 (by omega)
        have hbl : b < wr.heap.size := by omega
        clear hbl0
        have hcell (i : Nat) (v : Int) (hi : i < 6) (hv : [z0, z1, z2, z3, z4, z5][i]? = some v) : ∀ O, (wr.alloc O).cell? ⟨b, o + i, none⟩ = some (.int .u8 v) := fun O => by
          rw [World.cell?_alloc_lt _ _ _ hbl]; exact hcl _ _ (by rw [List.getElem?_map, List.getElem?_drop, six_get hzd i hi, hv]; rfl)
        have hb255 (i : Nat) (v : Int) (hi : i < 6) (hv : [z0, z1, z2, z3, z4, z5][i]? = some v) : 0 ≤ v ∧ v ≤ 255 := hz v (by
          have := six_get hzd i hi; rw [hv] at this; exact List.mem_of_getElem? this)
        have g0 : ∀ O, (wr.alloc O).cell? ⟨b, o, none⟩ = _ := hcell 0 z0 (by omega) rfl
        have g1 := hcell 1 z1 (by omega) rfl
        have g2 := hcell 2 z2 (by omega) rfl
        have g3 := hcell 3 z3 (by omega) rfl
        have g4 := hcell 4 z4 (by omega) rfl
        have g5 := hcell 5 z5 (by omega) rfl
        obtain ⟨p0, q0⟩ := hb255 0 z0 (by omega) rfl
        obtain ⟨p1, q1⟩ := hb255 1 z1 (by omega) rfl
        obtain ⟨p2, q2⟩ := hb255 2 z2 (by omega) rfl
        obtain ⟨p3, q3⟩ := hb255 3 z3 (by omega) rfl
        obtain ⟨p4, q4⟩ := hb255 4 z4 (by omega) rfl
        obtain ⟨p5, q5⟩ := hb255 5 z5 (by omega) rfl
        obtain ⟨A3, c3, rfl, _⟩ := own_shape hown
        have HZD := Lib.hid hzd
        have HOWN := Lib.hid hown
        have HCL := Lib.hid hcl
        have HRD := Lib.hid hrd
        clear hzd hown hcl hcell hb255 hrd
        have hd3 : decide ((k : Int) < 300) = true := by simp; omega
        go_wp2_with fail
        refine wp_loop_rounds 7 ?_
        repeat any_goals (rw [rounds_succ]; go_wp2_with (at_builtin; go_must (refine wpList_app (news := [.int .i64 z0, .int .i64 z1, .int .i64 z2, .int .i64 z3, .int .i64 z4, .int .i64 z5]) elem_op rfl (.tmp 28) (.tmp 42) rfl rfl ((HOWN.out.alloc _).alloc _) rfl ?_ ?_ ?_ ?_ ?_ ?_; (focus exact Rd.new _ _ _ (by simp) rfl); (focus (simp [Value.oneCell'])); (focus omega); (focus (unfold maxLen; omega)); (focus (simp; omega)); intro v' w1 hown1 hgr hbel)))
        go_roundw
        case rel =>
          refine ⟨k + 1, m - 6, c' - 6, _, by omega, by rw [HNM.out]; omega, by omega, by omega, rfl, ?_, ?_, hbel _ _ ((hb.alloc hsz _).alloc (by simp; omega) _) (Nat.le_refl _)⟩
          · have hr2 := HRD.out.on (w' := w1) ?_
            · have hr3 := hr2.cut1 (k := 6) (c := c') h6 hmc
              rw [← List.map_drop, List.drop_drop] at hr3
              rw [show (k + 1) * 6 = k * 6 + 6 by omega]
              exact hr3
            · exact hbel _ _ (((Below.refl _ _).alloc hsz _).alloc (by simp; omega) _) (Nat.le_refl _)
          · rw [take_snoc6 rfl HZD.out, List.map_append]
            exact hown1
        case measure => simp only [lenOf]; omega
      · have hev : evs n = k := by unfold evs; rw [HNM.out]; omega
        have HEV := Lib.hid hev
        have HOWN := Lib.hid hown
        obtain ⟨A3, c3, rfl, _⟩ := own_shape hown
        have hd3 : decide ((k : Int) < 300) = false := by simp; omega
        clear hev hown hrd
        go_wp2
        go_ret
        exact ⟨_, rfl, by rw [HEV.out]; exact HOWN.out, hb⟩
    · have hev : evs n = k := by unfold evs; rw [HNM.out]; omega
      have HEV := Lib.hid hev
      have HOWN := Lib.hid hown
      have hd3 : decide ((6 : Int) ≤ m) = false := by simp; omega
      clear hev hown hrd
      go_wp2
      go_ret
      exact ⟨_, rfl, by rw [HEV.out]; exact HOWN.out, hb⟩
end Go.Proofs.Ytdagjjicejhplaa
