/- Walks of the functions that script.Request and its reference reach: what each returns, for every input. No condition but the range of a 64-bit number. -/
import Derived.Test.YtdagjjicejhplaaProg
import Derived.WalkKit
import Derived.WalkLawsBesides
import Derived.WalkSpells
import Derived.Deep.RegionWith
import Derived.Deep.RegionHeld3
import Derived.Deep.DeepMust
import Derived.Deep.DeepCutAuto
import Derived.Lib.Hide
import Derived.OpenShut
import Derived.Handy
namespace Go.Proofs.Ytdagjjicejhplaa
set_option linter.unusedVariables false
set_option linter.unusedSimpArgs false
open Go.RowKit

theorem tmod_pos (n b : Int) (hb : 0 < b) : (n.tmod b + b).tmod b = n % b := by
  rcases Int.lt_or_le n 0 with h | h
  · have h1 : n.tmod b = -((-n) % b) := by
      rw [← Int.neg_neg n, Int.neg_tmod, Int.tmod_eq_emod_of_nonneg (by omega)]; simp
    have h2 := Int.emod_nonneg (-n) (show b ≠ 0 by omega)
    have h3 := Int.emod_lt_of_pos (-n) hb
    rw [h1, Int.tmod_eq_emod_of_nonneg (by omega)]
    have := Int.emod_add_mul_ediv (-n) b
    rw [show -(-n % b) + b = n + b * ((-n) / b + 1) by rw [Int.mul_add]; omega]
    simp
  · rw [Int.tmod_eq_emod_of_nonneg h]
    have h2 := Int.emod_nonneg n (show b ≠ 0 by omega)
    rw [Int.tmod_eq_emod_of_nonneg (by omega)]; simp

theorem tmod_lt (n b : Int) (hb : 0 < b) : -b < n.tmod b ∧ n.tmod b < b := by
  have h1 := Int.tmod_lt_of_pos n hb
  have h2 := Int.lt_tmod_of_pos n hb
  omega

theorem ret_i64 {a b : Int} (h : a = b) : Ending.returned (.int .i64 a) = .returned (.int .i64 b) := by rw [h]

theorem rest_any (n b : Int) (w : World) (hb : 1 ≤ b) (hb2 : b ≤ 256) :
    Calls Try.prog 17 #[.int .i64 n, .int .i64 b] w fun e w' => e = .returned (.int .i64 (n % b)) ∧ w = w' := by
  have h := tmod_lt n b (by omega)
  have hb0 : (b == 0) = false := by simp; omega
  go_enter Try.func17, Try.ntmps17
  go_wp2
  go_ret
  refine ⟨ret_i64 ?_, rfl⟩
  rw [← Int.tmod_eq_emod_of_nonneg (by omega)]
  exact tmod_pos n b (by omega)

theorem left_any (n b : Int) (w : World) (hb : 1 ≤ b) (hb2 : b ≤ 256) :
    Calls Try.prog 19 #[.int .i64 n, .int .i64 b] w fun e w' => e = .returned (.int .i64 (n % b)) ∧ w = w' := by
  have h := tmod_lt n b (by omega)
  have hp := tmod_pos n b (by omega)
  have hb0 : (b == 0) = false := by simp; omega
  have hq : n.tmod b = if n.tmod b < 0 then n % b - b else n % b := by
    split
    · rw [Int.tmod_eq_emod_of_nonneg (by omega), Int.emod_eq_of_lt (by omega) (by omega)] at hp
      omega
    · rename_i hh
      rw [← hp, Int.tmod_eq_emod_of_nonneg (a := n.tmod b + b) (by omega), Int.add_emod_right, Int.emod_eq_of_lt (by omega) (by omega)]
  have HQ := Lib.hid hq
  clear hq hp
  by_cases hneg : n.tmod b < 0
  all_goals
    go_enter Try.func19, Try.ntmps19
    go_wp2
    go_ret
    refine ⟨ret_i64 ?_, rfl⟩
    have := HQ.out
    split at this <;> omega

/-- One of three texts. -/
def pick3 (a b c : ByteArray) (n : Int) : ByteArray := if n % 3 = 0 then a else if n % 3 = 1 then b else c
/-- One of four texts. -/
def pick4 (a b c d : ByteArray) (n : Int) : ByteArray := if n % 4 = 0 then a else if n % 4 = 1 then b else if n % 4 = 2 then c else d

theorem pick3_any (a b c : ByteArray) (n : Int) (B : Nat) (w : World)
    (h0 : w.cell? ⟨B, 0, none⟩ = some (.string a)) (h1 : w.cell? ⟨B, 1, none⟩ = some (.string b)) (h2 : w.cell? ⟨B, 2, none⟩ = some (.string c)) :
    Calls Try.prog 18 #[.int .i64 n, .slice (some ⟨B, 0, none⟩) 3 3] w fun e w' => e = .returned (.string (pick3 a b c n)) ∧ w = w' := by
  rcases (show n % 3 = 0 ∨ n % 3 = 1 ∨ n % 3 = 2 by omega) with h | h | h
  all_goals
    go_enter Try.func18, Try.ntmps18
    go_wp2_with (go_at_call 17; refine (rest_any _ _ _ (by omega) (by omega)).mono ?_; rintro e w' ⟨rfl, rfl⟩)
    go_ret
    exact ⟨by show Ending.returned (.string _) = _; simp [pick3, h], rfl⟩

theorem pick4_any (a b c d : ByteArray) (n : Int) (B : Nat) (w : World)
    (h0 : w.cell? ⟨B, 0, none⟩ = some (.string a)) (h1 : w.cell? ⟨B, 1, none⟩ = some (.string b)) (h2 : w.cell? ⟨B, 2, none⟩ = some (.string c)) (h3 : w.cell? ⟨B, 3, none⟩ = some (.string d)) :
    Calls Try.prog 18 #[.int .i64 n, .slice (some ⟨B, 0, none⟩) 4 4] w fun e w' => e = .returned (.string (pick4 a b c d n)) ∧ w = w' := by
  rcases (show n % 4 = 0 ∨ n % 4 = 1 ∨ n % 4 = 2 ∨ n % 4 = 3 by omega) with h | h | h | h
  all_goals
    go_enter Try.func18, Try.ntmps18
    go_wp2_with (go_at_call 17; refine (rest_any _ _ _ (by omega) (by omega)).mono ?_; rintro e w' ⟨rfl, rfl⟩)
    go_ret
    exact ⟨by show Ending.returned (.string _) = _; simp [pick4, h], rfl⟩

/-- The request that the numbers C, D, E of an event ask for: six values. -/
def userOf (D : Int) : ByteArray := pick3 ⟨#[97, 110, 110]⟩ ⟨#[98, 111, 98]⟩ ⟨#[99, 105, 100]⟩ D
def keyOf (D : Int) : ByteArray := pick3 ⟨#[97]⟩ ⟨#[98]⟩ ⟨#[99]⟩ D
def valueOf (E : Int) : ByteArray := pick4 ⟨#[]⟩ ⟨#[120]⟩ ⟨#[121, 121]⟩ ⟨#[122, 122, 122]⟩ E
def reqV (C D E : Int) : Value :=
  .agg #[.int .i64 (C % 8 + 1), .string ⟨#[]⟩,
    .string (if C % 8 = 0 ∨ C % 8 = 6 then userOf D else ⟨#[]⟩),
    .string (if C % 8 = 1 ∨ C % 8 = 2 ∨ C % 8 = 3 then keyOf D else ⟨#[]⟩),
    .string (if C % 8 = 2 then valueOf E else ⟨#[]⟩),
    .int .i64 (if C % 8 = 0 ∨ C % 8 = 4 then E % 16 else 0)]

theorem userOf_eq (D : Int) : pick3 ⟨#[97, 110, 110]⟩ ⟨#[98, 111, 98]⟩ ⟨#[99, 105, 100]⟩ D = userOf D := rfl
theorem keyOf_eq (D : Int) : pick3 ⟨#[97]⟩ ⟨#[98]⟩ ⟨#[99]⟩ D = keyOf D := rfl
theorem valueOf_eq (D : Int) : pick4 ⟨#[]⟩ ⟨#[120]⟩ ⟨#[121, 121]⟩ ⟨#[122, 122, 122]⟩ D = valueOf D := rfl

set_option maxHeartbeats 2000000 in
theorem request_any (k a b c d e : Int) (w : World) :
    Calls Try.prog 8 #[.agg #[.int .i64 k, .int .i64 a, .int .i64 b, .int .i64 c, .int .i64 d, .int .i64 e]] w fun en w' => en = .returned (reqV c d e) ∧ Below w.heap.size w w' := by
  go_enter Try.func8, Try.ntmps8
  go_upto_region 2 with (go_at_call 17; refine (rest_any _ _ _ (by omega) (by omega)).mono ?_; rintro e w' ⟨rfl, rfl⟩)
  go_cut [4, 5] (fun u y wx => u = .string (userOf d) ∧ y = .string (keyOf d) ∧ ∃ O1 O2, wx = ((((((w.alloc (.cells #[.int .i64 k, .int .i64 a, .int .i64 b, .int .i64 c, .int .i64 d, .int .i64 e] 23)).alloc (.cells #[.int .i64 0, .string ⟨#[]⟩, .string ⟨#[]⟩, .string ⟨#[]⟩, .string ⟨#[]⟩, .int .i64 0] 27)).alloc (.cells #[.int .i64 (c % 8 + 1), .string ⟨#[]⟩, .string ⟨#[]⟩, .string ⟨#[]⟩, .string ⟨#[]⟩, .int .i64 0] 27)).alloc O1).alloc O2).drew))
  case first =>
    go_region_held3 (fun w' => w'.cell? ⟨w.heap.size, 4, none⟩ = some (.int .i64 d)) (go_simp) (first | (go_at_call 18; refine (pick3_any ⟨#[97, 110, 110]⟩ ⟨#[98, 111, 98]⟩ ⟨#[99, 105, 100]⟩ _ _ _ ?_ ?_ ?_).mono ?_; (focus go_cell); (focus go_cell); (focus go_cell); rintro e w' ⟨rfl, rfl⟩) | (go_at_call 18; refine (pick3_any ⟨#[97]⟩ ⟨#[98]⟩ ⟨#[99]⟩ _ _ _ ?_ ?_ ?_).mono ?_; (focus go_cell); (focus go_cell); (focus go_cell); rintro e w' ⟨rfl, rfl⟩))
    all_goals (go_wp2_with fail; go_meet; exact ⟨rfl, rfl, _, _, rfl⟩)
  case rest =>
    obtain ⟨rfl, rfl, O1, O2, rfl⟩ := hcut
    rcases (show c % 8 = 0 ∨ c % 8 = 1 ∨ c % 8 = 2 ∨ c % 8 = 3 ∨ c % 8 = 4 ∨ c % 8 = 5 ∨ c % 8 = 6 ∨ c % 8 = 7 by omega) with h | h | h | h | h | h | h | h
    all_goals
      go_wp2_with (first | (go_at_call 17; refine (rest_any _ _ _ (by omega) (by omega)).mono ?_; rintro e w' ⟨rfl, rfl⟩) | (go_at_call 18; refine (pick4_any ⟨#[]⟩ ⟨#[120]⟩ ⟨#[121, 121]⟩ ⟨#[122, 122, 122]⟩ _ _ _ ?_ ?_ ?_ ?_).mono ?_; (focus go_cell); (focus go_cell); (focus go_cell); (focus go_cell); rintro e w' ⟨rfl, rfl⟩))
      refine bodyPost_ret (v := reqV c d e) ?_ rfl ⟨rfl, ?_⟩
      · simp [results, Try.results8, go_sem, reqV, h, valueOf]
      · go_grown

end Go.Proofs.Ytdagjjicejhplaa
