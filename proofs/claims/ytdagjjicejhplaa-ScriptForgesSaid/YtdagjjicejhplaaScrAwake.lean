/- Walk of the script laws' awake: it returns true. -/
import Derived.Test.YtdagjjicejhplaaScrWalk
import Derived.Test.YtdagjjicejhplaaBase
namespace Go.Proofs.Ytdagjjicejhplaa.Aw
set_option linter.unusedVariables false
set_option linter.unusedSimpArgs false
open Go.RowKit Base

theorem req_awake : reqV 2 1 2 = .agg #[.int .i64 3, .string ⟨#[]⟩, .string ⟨#[]⟩, .string ⟨#[98]⟩, .string ⟨#[121, 121]⟩, .int .i64 0] := by
  simp [reqV, keyOf, valueOf, pick3, pick4]

theorem awake_any (w : World) :
    Calls Try.prog 7 #[] w fun en w' => en = .returned (.bool true) ∧ Below w.heap.size w w' := by
  go_enter Try.func7, Try.ntmps7
  go_wp2_with (go_at_call 8; refine (request_any _ _ _ _ _ _ _).mono ?_; rintro e w' ⟨rfl, hb⟩; rw [req_awake])
  go_ret
  exact ⟨rfl, by assumption⟩
end Go.Proofs.Ytdagjjicejhplaa.Aw
