/- What the library's contracts say of a world, taken into the logic. No condition. -/
import Derived.Test.YtdagjjicejhplaaPg
namespace Go.Proofs.Ytdagjjicejhplaa.Px
set_option linter.unusedVariables false
set_option linter.unusedSimpArgs false
open Go.RowKit
theorem Sim_kitX {w0 w w' : World} {h : PH} (s : Sim w0 h w) (hb : Below w.heap.size w w') : Sim w0 h w' :=
  ⟨s.below.trans (hb.mono s.base), Nat.le_trans s.top hb.size, fun b k e => ⟨(s.sat b k e).1, by
    obtain ⟨cur, t, lo, hi, h1, h2⟩ := (s.sat b k e).2
    exact ⟨cur, t, lo, hi, by rw [hb.block b (Nat.lt_of_lt_of_le (h.lt b k e) s.top)]; exact h1, h2⟩⟩⟩
theorem PCalls_kitX {P : Program} {w0 : World} {h : PH} {g : FuncId} {args : List Value} {v : Value} (he : entered P g = true) (hc : ∀ w, Sim w0 h w → Calls P g args.toArray w fun e w' => e = .returned v ∧ Below w.heap.size w w') : PCalls P w0 g args h fun r h' => r = v ∧ h' = h :=
  fun w s => .inl ⟨run_callFunc he _ w, (hc w s).mono fun e w' ⟨h1, h2⟩ => ⟨v, h, h1, ⟨rfl, rfl⟩, Sim_kitX s h2⟩⟩
end Go.Proofs.Ytdagjjicejhplaa.Px
