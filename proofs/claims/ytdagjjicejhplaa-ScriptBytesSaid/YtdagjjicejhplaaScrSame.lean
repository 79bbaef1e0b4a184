/- Walk of the reference's Same: two lists of events are told alike just if their numbers are the same. The slices are shorter than 2^60. -/
import Derived.Test.YtdagjjicejhplaaBase
import Derived.WalkLawsBesides
import Derived.WalkSpells
import Derived.BigQuiet
import Derived.Deep.QuietTactic
import Derived.Handy
namespace Go.Proofs.Ytdagjjicejhplaa
set_option linter.unusedVariables false
set_option linter.unusedSimpArgs false
open Go.RowKit Base

/-- Six numbers at a place. -/
theorem six_at (xs : List Int) (k : Nat) (h : k * 6 + 6 ≤ xs.length) : ∃ x0 x1 x2 x3 x4 x5 : Int, xs.drop (k * 6) = [x0, x1, x2, x3, x4, x5] ++ xs.drop ((k + 1) * 6) := by
  have e (j : Nat) (hj : j < xs.length) : xs.drop j = xs[j] :: xs.drop (j + 1) := List.drop_eq_getElem_cons hj
  refine ⟨xs[k * 6], xs[k * 6 + 1], xs[k * 6 + 2], xs[k * 6 + 3], xs[k * 6 + 4], xs[k * 6 + 5], ?_⟩
  rw [e (k * 6) (by omega), e (k * 6 + 1) (by omega), e (k * 6 + 2) (by omega), e (k * 6 + 3) (by omega), e (k * 6 + 4) (by omega), e (k * 6 + 5) (by omega), show (k + 1) * 6 = k * 6 + 5 + 1 by omega]
  rfl

theorem six_get {xs : List Int} {k : Nat} {l : List Int} (h : xs.drop (k * 6) = l ++ xs.drop ((k + 1) * 6)) (i : Nat) (hi : i < l.length) : xs[k * 6 + i]? = l[i]? := by
  rw [← List.getElem?_drop, h, List.getElem?_append_left hi]

theorem take_six {xs ys : List Int} {k : Nat} {l : List Int} (hl : l.length = 6) (hx : xs.drop (k * 6) = l ++ xs.drop ((k + 1) * 6)) (hy : ys.drop (k * 6) = l ++ ys.drop ((k + 1) * 6))
    (h : xs.take (k * 6) = ys.take (k * 6)) : xs.take ((k + 1) * 6) = ys.take ((k + 1) * 6) := by
  have e (zs : List Int) (hz : zs.drop (k * 6) = l ++ zs.drop ((k + 1) * 6)) : zs.take ((k + 1) * 6) = zs.take (k * 6) ++ l := by
    rw [show (k + 1) * 6 = k * 6 + 6 by omega, List.take_add, hz, List.take_left' hl]
  rw [e xs hx, e ys hy, h]

theorem ne_six {xs ys : List Int} {k : Nat} {l l' : List Int} (hl : l.length = 6) (hl' : l'.length = 6) (hx : xs.drop (k * 6) = l ++ xs.drop ((k + 1) * 6)) (hy : ys.drop (k * 6) = l' ++ ys.drop ((k + 1) * 6))
    (h : l ≠ l') : decide (xs = ys) = false := by
  refine decide_eq_false fun e => h ?_
  subst e
  have := hx.symm.trans hy
  exact (List.append_inj this (by omega)).1

theorem neq_op (x0 x1 x2 x3 x4 x5 y0 y1 y2 y3 y4 y5 : Int) (w : World) :
    (binOp .neq 23 (.agg #[.int .i64 x0, .int .i64 x1, .int .i64 x2, .int .i64 x3, .int .i64 x4, .int .i64 x5]) (.agg #[.int .i64 y0, .int .i64 y1, .int .i64 y2, .int .i64 y3, .int .i64 y4, .int .i64 y5])).run Try.prog w
      = .ok (.bool (!decide ([x0, x1, x2, x3, x4, x5] = [y0, y1, y2, y3, y4, y5]))) w := by
  by_cases h0 : x0 = y0
  · by_cases h1 : x1 = y1
    · by_cases h2 : x2 = y2
      · by_cases h3 : x3 = y3
        · by_cases h4 : x4 = y4
          · by_cases h5 : x5 = y5
            · subst h0 h1 h2 h3 h4 h5; go_simp
            · have h5' : (x5 == y5) = false := by simpa using h5
              subst h0 h1 h2 h3 h4; go_simp
          · have h4' : (x4 == y4) = false := by simpa using h4
            subst h0 h1 h2 h3; go_simp
        · have h3' : (x3 == y3) = false := by simpa using h3
          subst h0 h1 h2; go_simp
      · have h2' : (x2 == y2) = false := by simpa using h2
        subst h0 h1; go_simp
    · have h1' : (x1 == y1) = false := by simpa using h1
      subst h0; go_simp
  · have h0' : (x0 == y0) = false := by simpa using h0
    go_simp

theorem same_any (A B : Option Addr) (n m ca cb : Nat) (xs ys : List Int) (w : World) (hn : n ≤ 1152921504606846976) (hm : m ≤ 1152921504606846976)
    (hx : Rd w w.heap.size 6 A n (xs.map (Value.int .i64))) (hy : Rd w w.heap.size 6 B m (ys.map (Value.int .i64))) :
    Calls Try.prog 10 #[.slice A n ca, .slice B m cb] w fun e w' => e = .returned (.bool (decide (xs = ys))) ∧ Below w.heap.size w w' := by
  by_cases hnm : n = m
  · subst hnm
    have hlx : xs.length = n * 6 := by simpa using hx.1
    have hly : ys.length = n * 6 := by simpa using hy.1
    have HLX := Lib.hid hlx
    have HLY := Lib.hid hly
    clear hlx hly
    go_enter Try.func10, Try.ntmps10
    go_wp2
    go_loopw [5] (fun i wr => ∃ k : Nat, k ≤ n ∧ i = .int .i64 k ∧ xs.take (k * 6) = ys.take (k * 6) ∧ Below w.heap.size w wr) (fun i _ => n - (intOf i).toNat)
    case atStart => exact ⟨0, Nat.zero_le _, rfl, by simp, Below.refl _ _⟩
    case round =>
      obtain ⟨k, hk, rfl, hpre, hb⟩ := hrel
      have HP := Lib.hid hpre
      clear hpre
      by_cases hkn : k < n
      · obtain ⟨bx, ox, rfl, _, hcx⟩ := (hx.on hb).2 (by omega)
        obtain ⟨by_, oy, rfl, _, hcy⟩ := (hy.on hb).2 (by omega)
        obtain ⟨x0, x1, x2, x3, x4, x5, hxd⟩ := six_at xs k (by rw [HLX.out]; omega)
        obtain ⟨y0, y1, y2, y3, y4, y5, hyd⟩ := six_at ys k (by rw [HLY.out]; omega)
        have cx (i : Nat) (v : Int) (hi : i < 6) (hv : [x0, x1, x2, x3, x4, x5][i]? = some v) : wr.cell? ⟨bx, ox + (k * 6 + i), none⟩ = some (.int .i64 v) := hcx _ _ (by rw [List.getElem?_map, six_get hxd i hi, hv]; rfl)
        have cy (i : Nat) (v : Int) (hi : i < 6) (hv : [y0, y1, y2, y3, y4, y5][i]? = some v) : wr.cell? ⟨by_, oy + (k * 6 + i), none⟩ = some (.int .i64 v) := hcy _ _ (by rw [List.getElem?_map, six_get hyd i hi, hv]; rfl)
        have gx0 : wr.cell? ⟨bx, ox + k * 6, none⟩ = _ := cx 0 x0 (by omega) rfl
        have gx1 : wr.cell? ⟨bx, ox + k * 6 + 1, none⟩ = _ := cx 1 x1 (by omega) rfl
        have gx2 : wr.cell? ⟨bx, ox + k * 6 + 2, none⟩ = _ := cx 2 x2 (by omega) rfl
        have gx3 : wr.cell? ⟨bx, ox + k * 6 + 3, none⟩ = _ := cx 3 x3 (by omega) rfl
        have gx4 : wr.cell? ⟨bx, ox + k * 6 + 4, none⟩ = _ := cx 4 x4 (by omega) rfl
        have gx5 : wr.cell? ⟨bx, ox + k * 6 + 5, none⟩ = _ := cx 5 x5 (by omega) rfl
        have gy0 : wr.cell? ⟨by_, oy + k * 6, none⟩ = _ := cy 0 y0 (by omega) rfl
        have gy1 : wr.cell? ⟨by_, oy + k * 6 + 1, none⟩ = _ := cy 1 y1 (by omega) rfl
        have gy2 : wr.cell? ⟨by_, oy + k * 6 + 2, none⟩ = _ := cy 2 y2 (by omega) rfl
        have gy3 : wr.cell? ⟨by_, oy + k * 6 + 3, none⟩ = _ := cy 3 y3 (by omega) rfl
        have gy4 : wr.cell? ⟨by_, oy + k * 6 + 4, none⟩ = _ := cy 4 y4 (by omega) rfl
        have gy5 : wr.cell? ⟨by_, oy + k * 6 + 5, none⟩ = _ := cy 5 y5 (by omega) rfl
        have HXD := Lib.hid hxd
        have HYD := Lib.hid hyd
        clear hcx hcy cx cy hxd hyd
        have hneq := neq_op x0 x1 x2 x3 x4 x5 y0 y1 y2 y3 y4 y5
        have i0 : (0 : Int) ≤ k := by omega
        have i1 : (k : Int) < n := by omega
        by_cases heq : [x0, x1, x2, x3, x4, x5] = [y0, y1, y2, y3, y4, y5]
        · have hd : decide ([x0, x1, x2, x3, x4, x5] = [y0, y1, y2, y3, y4, y5]) = true := decide_eq_true heq
          rw [hd] at hneq
          have HEQ := Lib.hid heq
          clear heq hd
          go_wp2
          go_quiet (fail)
          go_wp2
          go_roundw
          case rel =>
            refine ⟨k + 1, by omega, by go_num, ?_, hb.trans ?_⟩
            · exact take_six rfl HXD.out (by rw [HEQ.out]; exact HYD.out) HP.out
            · exact ⟨rfl, rfl, rfl, Nat.le_refl _, fun _ _ => rfl⟩
          case measure => simp [intOf]; omega
        · have hd : decide ([x0, x1, x2, x3, x4, x5] = [y0, y1, y2, y3, y4, y5]) = false := decide_eq_false heq
          rw [hd] at hneq
          have HF := Lib.hid (ne_six rfl rfl HXD.out HYD.out heq)
          clear heq hd
          go_wp2
          go_quiet (fail)
          go_wp2
          go_ret
          exact ⟨ret_bool HF.out.symm, hb.trans ⟨rfl, rfl, rfl, Nat.le_refl _, fun _ _ => rfl⟩⟩
      · have hk' : k = n := by omega
        have HD := Lib.hid (show decide (xs = ys) = true from decide_eq_true (by
          have e1 : xs.take (k * 6) = xs := List.take_of_length_le (by rw [HLX.out, hk']; exact Nat.le_refl _)
          have e2 : ys.take (k * 6) = ys := List.take_of_length_le (by rw [HLY.out, hk']; exact Nat.le_refl _)
          rw [← e1, ← e2]; exact HP.out))
        clear hk'
        go_wp2
        go_ret
        exact ⟨ret_bool HD.out.symm, hb⟩
  · have HD := Lib.hid (show decide (xs = ys) = false from decide_eq_false fun e => hnm (by
      have h1 := hx.1; have h2 := hy.1; rw [e] at h1; simp at h1 h2; omega))
    have hnm' : ((n : Int) != m) = true := by rw [bne_iff_ne]; omega
    clear hnm hx hy
    go_enter Try.func10, Try.ntmps10
    go_wp2
    go_ret
    exact ⟨ret_bool HD.out.symm, Below.refl _ _⟩
end Go.Proofs.Ytdagjjicejhplaa
