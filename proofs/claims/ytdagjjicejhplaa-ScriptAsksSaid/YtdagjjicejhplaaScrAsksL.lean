/- Walk of the law ScriptAsks: it returns true for every event. -/
import Derived.Test.YtdagjjicejhplaaScrRef
namespace Go.Proofs.Ytdagjjicejhplaa
open Go.RowKit

theorem req_awake : reqV 2 1 2 = .agg #[.int .i64 3, .string ⟨#[]⟩, .string ⟨#[]⟩, .string ⟨#[98]⟩, .string ⟨#[121, 121]⟩, .int .i64 0] := by
  simp [reqV, keyOf, valueOf, pick3, pick4]

theorem req_parts (C D E : Int) : ∃ (a : Int) (u k v : ByteArray) (l : Int), reqV C D E = .agg #[.int .i64 a, .string ⟨#[]⟩, .string u, .string k, .string v, .int .i64 l] := ⟨_, _, _, _, _, rfl⟩

theorem awake_any (w : World) :
    Calls Try.prog 7 #[] w fun en w' => en = .returned (.bool true) ∧ Below w.heap.size w w' := by
  go_enter Try.func7, Try.ntmps7
  go_wp2_with (go_at_call 8; refine (request_any _ _ _ _ _ _ _).mono ?_; rintro e w' ⟨rfl, hb⟩; rw [req_awake])
  go_ret
  exact ⟨rfl, by assumption⟩

/-- The six cells of an event's variable. -/
def Six (B : Nat) (k a b c d e : Int) (w : World) : Prop :=
  w.cell? ⟨B, 0, none⟩ = some (.int .i64 k) ∧ w.cell? ⟨B, 1, none⟩ = some (.int .i64 a) ∧ w.cell? ⟨B, 2, none⟩ = some (.int .i64 b) ∧
  w.cell? ⟨B, 3, none⟩ = some (.int .i64 c) ∧ w.cell? ⟨B, 4, none⟩ = some (.int .i64 d) ∧ w.cell? ⟨B, 5, none⟩ = some (.int .i64 e)

theorem six_below {B : Nat} {k a b c d e : Int} {w w' : World} (h : Six B k a b c d e w) (hb : Below w.heap.size w w') : Six B k a b c d e w' := by
  obtain ⟨h0, h1, h2, h3, h4, h5⟩ := h
  have hB := World.block_lt_of_cell? w _ h0
  exact ⟨(hb.cell (p := ⟨B, 0, none⟩) hB).trans h0, (hb.cell (p := ⟨B, 1, none⟩) hB).trans h1, (hb.cell (p := ⟨B, 2, none⟩) hB).trans h2, (hb.cell (p := ⟨B, 3, none⟩) hB).trans h3, (hb.cell (p := ⟨B, 4, none⟩) hB).trans h4, (hb.cell (p := ⟨B, 5, none⟩) hB).trans h5⟩

theorem six_new (w : World) (k a b c d e : Int) (T : TypeId) : Six w.heap.size k a b c d e (w.alloc (.cells #[.int .i64 k, .int .i64 a, .int .i64 b, .int .i64 c, .int .i64 d, .int .i64 e] T)) := by
  unfold Six
  refine ⟨?_, ?_, ?_, ?_, ?_, ?_⟩ <;> simp [go_sem]

theorem below_size {w w' : World} (h : Below w.heap.size w w') : w.heap.size ≤ w'.heap.size := h.size
theorem below_trans {a b c : World} (h : Below a.heap.size a b) (k : Below b.heap.size b c) : Below a.heap.size a c := h.trans (k.mono h.size)

theorem asks_any (k a b c d e : Int) (w : World) :
    Calls Try.prog 3 #[.agg #[.int .i64 k, .int .i64 a, .int .i64 b, .int .i64 c, .int .i64 d, .int .i64 e]] w fun en w' => en = .returned (.bool true) ∧ Below w.heap.size w w' := by
  obtain ⟨qa, qu, qk, qv, ql, hq⟩ := req_parts c d e
  have HQ := Lib.hid hq
  clear hq
  have h6 := six_new w k a b c d e 23
  have H6 := Lib.hid h6
  clear h6
  go_enter Try.func3, Try.ntmps3
  go_wp2_with (go_at_call 7; refine (awake_any _).mono ?_; rintro e w1 ⟨rfl, hb⟩)
  have h61 := six_below H6.out (by assumption)
  unfold Six at h61
  obtain ⟨g0, g1, g2, g3, g4, g5⟩ := h61
  go_region_held3 (fun w' => w'.cell? ⟨w.heap.size, 0, none⟩ = some (.int .i64 k) ∧ w'.cell? ⟨w.heap.size, 1, none⟩ = some (.int .i64 a) ∧ w'.cell? ⟨w.heap.size, 2, none⟩ = some (.int .i64 b) ∧ w'.cell? ⟨w.heap.size, 3, none⟩ = some (.int .i64 c) ∧ w'.cell? ⟨w.heap.size, 4, none⟩ = some (.int .i64 d) ∧ w'.cell? ⟨w.heap.size, 5, none⟩ = some (.int .i64 e))
    (first | (simp [*]; done) | exact six_below (by assumption) (by assumption))
    (first | (go_at_call 8; refine (request_any _ _ _ _ _ _ _).mono ?_; rintro e w2 ⟨rfl, hb2⟩; rw [HQ.out]) | (go_at_call 9; refine (ref_request_any _ _ _ _ _ _ _).mono ?_; rintro e w3 ⟨rfl, hb3⟩; rw [HQ.out]))
  all_goals go_wp2_with fail
  all_goals go_ret
  all_goals exact ⟨rfl, below_trans (below_trans (below_trans ((Below.refl _ _).alloc (Nat.le_refl _) _) ‹Below _ _ w1›).drew (by assumption)) (by assumption)⟩
end Go.Proofs.Ytdagjjicejhplaa
