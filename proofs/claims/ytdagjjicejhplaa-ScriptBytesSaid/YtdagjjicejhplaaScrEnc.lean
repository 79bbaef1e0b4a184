/- Walks of the reference's Right, of script.numbers and of script.Encode: up to 300 events whose numbers are bytes come to these bytes, others to none. -/
import Derived.Test.YtdagjjicejhplaaScrDec
namespace Go.Proofs.Ytdagjjicejhplaa
set_option linter.unusedVariables false
set_option linter.unusedSimpArgs false
open Go.RowKit Base

/-- Six numbers are bytes. -/
def Good6 (x0 x1 x2 x3 x4 x5 : Int) : Prop := (0 ≤ x0 ∧ x0 ≤ 255) ∧ (0 ≤ x1 ∧ x1 ≤ 255) ∧ (0 ≤ x2 ∧ x2 ≤ 255) ∧ (0 ≤ x3 ∧ x3 ≤ 255) ∧ (0 ≤ x4 ∧ x4 ≤ 255) ∧ (0 ≤ x5 ∧ x5 ≤ 255)
instance (x0 x1 x2 x3 x4 x5 : Int) : Decidable (Good6 x0 x1 x2 x3 x4 x5) := by unfold Good6; infer_instance

set_option maxHeartbeats 4000000 in
theorem right_any (x0 x1 x2 x3 x4 x5 : Int) (w : World) :
    Calls Try.prog 14 #[.agg #[.int .i64 x0, .int .i64 x1, .int .i64 x2, .int .i64 x3, .int .i64 x4, .int .i64 x5]] w fun e w' => e = .returned (.bool (decide (Good6 x0 x1 x2 x3 x4 x5))) ∧ Below w.heap.size w w' := by
  go_enter Try.func14, Try.ntmps14
  go_wp2
  go_loop [4] (fun i => ∃ k : Int, i = .int .i64 k ∧ 0 ≤ k ∧ k ≤ 6 ∧ (0 < k → 0 ≤ x0 ∧ x0 ≤ 255) ∧ (1 < k → 0 ≤ x1 ∧ x1 ≤ 255) ∧ (2 < k → 0 ≤ x2 ∧ x2 ≤ 255) ∧ (3 < k → 0 ≤ x3 ∧ x3 ≤ 255) ∧ (4 < k → 0 ≤ x4 ∧ x4 ≤ 255) ∧ (5 < k → 0 ≤ x5 ∧ x5 ≤ 255)) (fun i => 6 - (intOf i).toNat)
  case atStart => exact ⟨0, rfl, by omega, by omega, by omega, by omega, by omega, by omega, by omega, by omega⟩
  case round =>
    obtain ⟨k, rfl, hk0, hk, r0, r1, r2, r3, r4, r5⟩ := hrel
    have R := Lib.hid (And.intro r0 (And.intro r1 (And.intro r2 (And.intro r3 (And.intro r4 r5)))))
    clear r0 r1 r2 r3 r4 r5
    rcases (show k = 0 ∨ k = 1 ∨ k = 2 ∨ k = 3 ∨ k = 4 ∨ k = 5 ∨ k = 6 by omega) with rfl | rfl | rfl | rfl | rfl | rfl | rfl
    all_goals go_wp2
    all_goals first
      | (go_ret; obtain ⟨r0, r1, r2, r3, r4, r5⟩ := R.out; exact ⟨ret_bool (Eq.symm (by first | (refine decide_eq_true ?_; unfold Good6; omega) | (refine decide_eq_false ?_; unfold Good6; omega))), by go_grown⟩)
      | (go_round
         case rel => obtain ⟨r0, r1, r2, r3, r4, r5⟩ := R.out; refine ⟨_, rfl, ?_, ?_, ?_, ?_, ?_, ?_, ?_, ?_⟩ <;> omega
         case measure => simp [intOf])

theorem numbers_any (x0 x1 x2 x3 x4 x5 : Int) (w : World) :
    Calls Try.prog 20 #[.agg #[.int .i64 x0, .int .i64 x1, .int .i64 x2, .int .i64 x3, .int .i64 x4, .int .i64 x5]] w fun e w' => e = .returned (.agg #[.int .i64 x0, .int .i64 x1, .int .i64 x2, .int .i64 x3, .int .i64 x4, .int .i64 x5]) ∧ Below w.heap.size w w' := by
  go_enter Try.func20, Try.ntmps20
  go_wp2
  refine bodyPost_ret (v := .agg #[.int .i64 x0, .int .i64 x1, .int .i64 x2, .int .i64 x3, .int .i64 x4, .int .i64 x5]) ?_ rfl ⟨rfl, ?_⟩
  · simp [results, Try.results20, go_sem]
  · go_grown

theorem info_u8 : (Try.prog.info? 5).map (fun i => (i.zero, i.size, i.bytes)) = some (some (.int .u8 0), 1, 1) := by kernel_rfl
theorem elem_u8 : Elem Try.prog 31 5 (.int .u8 0) 1 1 := ⟨Try.underlying31, info_parts info_u8, rfl, by decide⟩

/-- All numbers are bytes. -/
def Bytes (zs : List Int) : Prop := ∀ z ∈ zs, 0 ≤ z ∧ z ≤ 255

theorem bytes_six {zs : List Int} {k : Nat} {x0 x1 x2 x3 x4 x5 : Int} (h : zs.drop (k * 6) = [x0, x1, x2, x3, x4, x5] ++ zs.drop ((k + 1) * 6)) (hp : Bytes (zs.take (k * 6))) (hg : Good6 x0 x1 x2 x3 x4 x5) : Bytes (zs.take ((k + 1) * 6)) := by
  rw [take_snoc6 rfl h]
  intro z hz
  rcases List.mem_append.1 hz with hz | hz
  · exact hp z hz
  · unfold Good6 at hg
    simp at hz
    rcases hz with rfl | rfl | rfl | rfl | rfl | rfl <;> omega
theorem not_bytes {zs : List Int} {k : Nat} {l : List Int} {i : Nat} {x : Int} (h : zs.drop (k * 6) = l ++ zs.drop ((k + 1) * 6)) (hx : l[i]? = some x) (hb : x < 0 ∨ 255 < x) : ¬ Bytes zs := by
  intro hz
  have hi := (List.getElem?_eq_some_iff.1 hx).1
  have h1 := six_get h i hi
  rw [hx] at h1
  have := hz x (List.mem_of_getElem? h1)
  omega

theorem index6_0 (x0 x1 x2 x3 x4 x5 : Int) (w : World) : (Instr.index 44 (.agg #[.int .i64 x0, .int .i64 x1, .int .i64 x2, .int .i64 x3, .int .i64 x4, .int .i64 x5]) (.int .i64 0)).run Try.prog w = .ok (.int .i64 x0) w := by kernel_rfl
theorem index6_1 (x0 x1 x2 x3 x4 x5 : Int) (w : World) : (Instr.index 44 (.agg #[.int .i64 x0, .int .i64 x1, .int .i64 x2, .int .i64 x3, .int .i64 x4, .int .i64 x5]) (.int .i64 1)).run Try.prog w = .ok (.int .i64 x1) w := by kernel_rfl
theorem index6_2 (x0 x1 x2 x3 x4 x5 : Int) (w : World) : (Instr.index 44 (.agg #[.int .i64 x0, .int .i64 x1, .int .i64 x2, .int .i64 x3, .int .i64 x4, .int .i64 x5]) (.int .i64 2)).run Try.prog w = .ok (.int .i64 x2) w := by kernel_rfl
theorem index6_3 (x0 x1 x2 x3 x4 x5 : Int) (w : World) : (Instr.index 44 (.agg #[.int .i64 x0, .int .i64 x1, .int .i64 x2, .int .i64 x3, .int .i64 x4, .int .i64 x5]) (.int .i64 3)).run Try.prog w = .ok (.int .i64 x3) w := by kernel_rfl
theorem index6_4 (x0 x1 x2 x3 x4 x5 : Int) (w : World) : (Instr.index 44 (.agg #[.int .i64 x0, .int .i64 x1, .int .i64 x2, .int .i64 x3, .int .i64 x4, .int .i64 x5]) (.int .i64 4)).run Try.prog w = .ok (.int .i64 x4) w := by kernel_rfl
theorem index6_5 (x0 x1 x2 x3 x4 x5 : Int) (w : World) : (Instr.index 44 (.agg #[.int .i64 x0, .int .i64 x1, .int .i64 x2, .int .i64 x3, .int .i64 x4, .int .i64 x5]) (.int .i64 5)).run Try.prog w = .ok (.int .i64 x5) w := by kernel_rfl
theorem index6 (x0 x1 x2 x3 x4 x5 : Int) (q : Nat) (x : Int) (hx : [x0, x1, x2, x3, x4, x5][q]? = some x) (w : World) :
    (Instr.index 44 (.agg #[.int .i64 x0, .int .i64 x1, .int .i64 x2, .int .i64 x3, .int .i64 x4, .int .i64 x5]) (.int .i64 q)).run Try.prog w = .ok (.int .i64 x) w := by
  have hq : q < 6 := by have := (List.getElem?_eq_some_iff.1 hx).1; simpa using this
  rcases (show q = 0 ∨ q = 1 ∨ q = 2 ∨ q = 3 ∨ q = 4 ∨ q = 5 by omega) with rfl | rfl | rfl | rfl | rfl | rfl
  · obtain rfl := Option.some.inj hx; exact index6_0 x0 x1 x2 x3 x4 x5 w
  · obtain rfl := Option.some.inj hx; exact index6_1 x0 x1 x2 x3 x4 x5 w
  · obtain rfl := Option.some.inj hx; exact index6_2 x0 x1 x2 x3 x4 x5 w
  · obtain rfl := Option.some.inj hx; exact index6_3 x0 x1 x2 x3 x4 x5 w
  · obtain rfl := Option.some.inj hx; exact index6_4 x0 x1 x2 x3 x4 x5 w
  · obtain rfl := Option.some.inj hx; exact index6_5 x0 x1 x2 x3 x4 x5 w
theorem bytes_snoc {l : List Int} {q : Nat} {x : Int} (h : Bytes (l.take q)) (hx : l[q]? = some x) (h0 : 0 ≤ x) (h1 : x ≤ 255) : Bytes (l.take (q + 1)) := by
  intro z hz
  rw [List.take_add_one, hx] at hz
  rcases List.mem_append.1 hz with hz | hz
  · exact h z hz
  · simp at hz
    subst hz
    exact ⟨h0, h1⟩
theorem good_of {x0 x1 x2 x3 x4 x5 : Int} (h : Bytes [x0, x1, x2, x3, x4, x5]) : Good6 x0 x1 x2 x3 x4 x5 :=
  ⟨h _ (by simp), h _ (by simp), h _ (by simp), h _ (by simp), h _ (by simp), h _ (by simp)⟩

/-- What Encode hands back: the bytes' slice, or none. -/
def EncPost (W : World) (n : Nat) (zs : List Int) (e : Ending) (w' : World) : Prop :=
  (n ≤ 300 ∧ Bytes zs ∧ ∃ v, e = .returned (.tuple #[v, .bool true]) ∧ w'.ownsRow W.heap.size 5 1 v (n * 6) (zs.map (Value.int .u8)) ∧ Below W.heap.size W w') ∨
  (¬ (n ≤ 300 ∧ Bytes zs) ∧ e = .returned (.tuple #[.slice none 0 0, .bool false]) ∧ Below W.heap.size W w')

set_option maxHeartbeats 16000000 in
set_option maxRecDepth 100000 in
theorem encode_any (A : Option Addr) (n c : Nat) (zs : List Int) (w : World) (hnb : n ≤ 1000)
    (hr : Rd w w.heap.size 6 A n (zs.map (Value.int .i64))) :
    Calls Try.prog 13 #[.slice A n c] w (EncPost w n zs) := by
  have hlz : zs.length = n * 6 := by simpa using hr.1
  have HLZ := Lib.hid hlz
  have HR := Lib.hid hr
  clear hlz hr
  by_cases hn3 : 300 < n
  · have hd : decide ((300 : Int) < n) = true := by simp; omega
    go_enter Try.func13, Try.ntmps13
    go_wp2
    go_ret2
    exact Or.inr ⟨by omega, rfl, Below.refl _ _⟩
  · have hd : decide ((300 : Int) < n) = false := by simp; omega
    go_enter Try.func13, Try.ntmps13
    go_wp2
    go_loopw [4, 14] (fun o i wr => ∃ k : Nat, k ≤ n ∧ i = .int .i64 k ∧ Bytes (zs.take (k * 6)) ∧ wr.ownsRow w.heap.size 5 1 o (k * 6) ((zs.take (k * 6)).map (Value.int .u8)) ∧ Below w.heap.size w wr) (fun _ i _ => n - (intOf i).toNat)
    case atStart => exact ⟨0, by omega, rfl, by intro z hz; simp at hz, World.ownsRow_nil _ _ _ _, Below.refl _ _⟩
    case round =>
      obtain ⟨k, hk, rfl, hby, hown, hb⟩ := hrel
      have hsz : w.heap.size ≤ wr.heap.size := hb.size
      have HBY := Lib.hid hby
      have HOWN := Lib.hid hown
      clear hby hown
      by_cases hkn : k < n
      · obtain ⟨x0, x1, x2, x3, x4, x5, hxd⟩ := six_at zs k (by rw [HLZ.out]; omega)
        obtain ⟨b, o, rfl, hbl, hcl⟩ := HR.out.2 (by omega)
        have cx (i : Nat) (v : Int) (hi : i < 6) (hv : [x0, x1, x2, x3, x4, x5][i]? = some v) : wr.cell? ⟨b, o + (k * 6 + i), none⟩ = some (.int .i64 v) :=
          cell_on (hcl _ _ (by rw [List.getElem?_map, six_get hxd i hi, hv]; rfl)) hb hbl
        have g0 : wr.cell? ⟨b, o + k * 6, none⟩ = _ := cx 0 x0 (by omega) rfl
        have g1 : wr.cell? ⟨b, o + k * 6 + 1, none⟩ = _ := cx 1 x1 (by omega) rfl
        have g2 : wr.cell? ⟨b, o + k * 6 + 2, none⟩ = _ := cx 2 x2 (by omega) rfl
        have g3 : wr.cell? ⟨b, o + k * 6 + 3, none⟩ = _ := cx 3 x3 (by omega) rfl
        have g4 : wr.cell? ⟨b, o + k * 6 + 4, none⟩ = _ := cx 4 x4 (by omega) rfl
        have g5 : wr.cell? ⟨b, o + k * 6 + 5, none⟩ = _ := cx 5 x5 (by omega) rfl
        have HXD := Lib.hid hxd
        have hbl' : b < wr.heap.size := by omega
        clear cx hxd hcl
        go_wp2_with (go_at_call 20; refine (numbers_any _ _ _ _ _ _ _).mono ?_; rintro e w1 ⟨rfl, hb1⟩)
        have hbw1 : Below w.heap.size w w1 := (hb.alloc hsz _).trans (hb1.mono (by simp; omega))
        have hsz1 : w.heap.size ≤ w1.heap.size := hbw1.size
        have hown1 : w1.ownsRow w.heap.size 5 1 u4 (k * 6) ((zs.take (k * 6)).map (Value.int .u8)) := own_on HOWN.out ((Below.refl _ _).alloc (Nat.le_refl _) _ |>.trans (hb1.mono (by simp)))
        obtain ⟨wo, rfl⟩ : ∃ wo : World, wo = wr := ⟨_, rfl⟩
        clear HOWN
        go_loopw [4, 20] (fun o j wq => ∃ q : Nat, q ≤ 6 ∧ j = .int .i64 q ∧ Bytes ([x0, x1, x2, x3, x4, x5].take q) ∧ wq.ownsRow w.heap.size 5 1 o (k * 6 + q) ((zs.take (k * 6) ++ [x0, x1, x2, x3, x4, x5].take q).map (Value.int .u8)) ∧ Below w.heap.size w wq) (fun _ j _ => 6 - (intOf j).toNat)
        case atStart => exact ⟨0, by omega, rfl, by intro z hz; simp at hz, by simpa using hown1, hbw1⟩
        case round =>
          obtain ⟨q, hq, rfl, hby, hown2, hb2⟩ := hrel
          have HBY2 := Lib.hid hby
          have HOWN2 := Lib.hid hown2
          have hsz2 : w.heap.size ≤ wr.heap.size := hb2.size
          clear hby hown2 hown1
          by_cases hq6 : q < 6
          · obtain ⟨x, hx⟩ : ∃ x, [x0, x1, x2, x3, x4, x5][q]? = some x := ⟨_, List.getElem?_eq_getElem (by simpa using hq6)⟩
            have hix := index6 x0 x1 x2 x3 x4 x5 q x hx
            have HX := Lib.hid hx
            clear hx
            by_cases hx0 : x < 0
            · go_wp2
              go_ret2
              exact Or.inr ⟨fun h => not_bytes HXD.out HX.out (Or.inl hx0) h.2, rfl, hb2⟩
            · by_cases hx1 : 255 < x
              · go_wp2
                go_ret2
                exact Or.inr ⟨fun h => not_bytes HXD.out HX.out (Or.inr hx1) h.2, rfl, hb2⟩
              · have hx0' : (0 : Int) ≤ x := by omega
                have hx1' : x ≤ 255 := by omega
                go_wp2_with (at_builtin; go_loud (refine wpList_app (news := [.int .u8 x]) elem_u8 rfl (.tmp 29) (.tmp 32) rfl rfl (HOWN2.out.alloc _) rfl ?_ ?_ ?_ ?_ ?_ ?_; (focus exact Rd.new _ _ _ (by simp) (by rfl)); (focus (simp [Value.oneCell'])); (focus omega); (focus (unfold maxLen; omega)); (focus (simp; omega)); intro v' w3 hown3 hgr hbel))
                go_roundw
                case rel =>
                  refine ⟨q + 1, by omega, by go_num, bytes_snoc HBY2.out HX.out hx0' hx1', ?_, hbel _ _ (hb2.alloc hsz2 _) (Nat.le_refl _)⟩
                  rw [List.take_add_one, HX.out, Option.toList_some, ← List.append_assoc, List.map_append]
                  exact hown3
                case measure => simp [intOf]; omega
          · obtain rfl : q = 6 := by omega
            go_wp2
            go_roundw
            case rel =>
              refine ⟨k + 1, by omega, by go_num, bytes_six HXD.out HBY.out (good_of HBY2.out), ?_, hb2⟩
              rw [take_snoc6 rfl HXD.out, show (k + 1) * 6 = k * 6 + 6 by omega]
              exact HOWN2.out
            case measure => simp [intOf]; omega
      · have hkn' : k = n := by omega
        have HZ := Lib.hid (show zs.take (k * 6) = zs from List.take_of_length_le (by rw [HLZ.out, hkn']; exact Nat.le_refl _))
        obtain ⟨A4, c4, rfl, _⟩ := own_shape HOWN.out
        have HKN := Lib.hid hkn'
        clear hkn'
        go_wp2
        go_ret2
        refine Or.inl ⟨by omega, by rw [← HZ.out]; exact HBY.out, _, rfl, ?_, hb⟩
        have := HOWN.out
        rw [HZ.out] at this
        rw [← HKN.out]
        exact this
end Go.Proofs.Ytdagjjicejhplaa
