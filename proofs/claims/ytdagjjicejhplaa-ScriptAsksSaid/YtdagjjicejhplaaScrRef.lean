/- Walk of the reference's Request: it returns the same six values as script.Request does, for every input. -/
import Derived.Test.YtdagjjicejhplaaScrWalk
namespace Go.Proofs.Ytdagjjicejhplaa
open Go.RowKit

set_option maxHeartbeats 16000000 in
set_option linter.unusedSimpArgs false in
theorem ref_request_any (k a b c d e : Int) (w : World) :
    Calls Try.prog 9 #[.agg #[.int .i64 k, .int .i64 a, .int .i64 b, .int .i64 c, .int .i64 d, .int .i64 e]] w fun en w' => en = .returned (reqV c d e) ∧ Below w.heap.size w w' := by
  rcases (show c % 8 = 2 ∨ (c % 8 = 0 ∨ c % 8 = 1 ∨ c % 8 = 3 ∨ c % 8 = 6) ∨ (c % 8 = 4 ∨ c % 8 = 5 ∨ c % 8 = 7) by omega) with h | h | h
  · rcases (show d % 3 = 0 ∨ d % 3 = 1 ∨ d % 3 = 2 by omega) with h' | h' | h'
    all_goals rcases (show e % 4 = 0 ∨ e % 4 = 1 ∨ e % 4 = 2 ∨ e % 4 = 3 by omega) with h'' | h'' | h'' | h''
    all_goals
      go_enter Try.func9, Try.ntmps9
      go_wp2_with (go_at_call 19; refine (left_any _ _ _ (by omega) (by omega)).mono ?_; rintro e w' ⟨rfl, rfl⟩)
      refine bodyPost_ret (v := reqV c d e) ?_ rfl ⟨rfl, ?_⟩
      · simp [results, Try.results9, go_sem, reqV, h, h', h'', valueOf, userOf, keyOf, pick3, pick4]
      · go_grown
  · have h'' : True := trivial
    rcases (show d % 3 = 0 ∨ d % 3 = 1 ∨ d % 3 = 2 by omega) with h' | h' | h'
    all_goals rcases h with h | h | h | h
    all_goals
      go_enter Try.func9, Try.ntmps9
      go_wp2_with (go_at_call 19; refine (left_any _ _ _ (by omega) (by omega)).mono ?_; rintro e w' ⟨rfl, rfl⟩)
      refine bodyPost_ret (v := reqV c d e) ?_ rfl ⟨rfl, ?_⟩
      · simp [results, Try.results9, go_sem, reqV, h, h', h'', valueOf, userOf, keyOf, pick3, pick4]
      · go_grown
  · have h' : True := trivial
    have h'' : True := trivial
    rcases h with h | h | h
    all_goals
      go_enter Try.func9, Try.ntmps9
      go_wp2_with (go_at_call 19; refine (left_any _ _ _ (by omega) (by omega)).mono ?_; rintro e w' ⟨rfl, rfl⟩)
      refine bodyPost_ret (v := reqV c d e) ?_ rfl ⟨rfl, ?_⟩
      · simp [results, Try.results9, go_sem, reqV, h, h', h'', valueOf, userOf, keyOf, pick3, pick4]
      · go_grown

end Go.Proofs.Ytdagjjicejhplaa
