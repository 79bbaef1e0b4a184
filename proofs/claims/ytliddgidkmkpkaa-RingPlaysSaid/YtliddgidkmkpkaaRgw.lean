/- A slice that was handed in, read in the logic; the ring's calls over one block. -/
import Derived.Test.YtliddgidkmkpkaaRg
import Derived.Test.YtliddgidkmkpkaaBase
namespace Go.Proofs.Ytliddgidkmkpkaa
set_option linter.unusedVariables false
set_option linter.unusedSimpArgs false
open Go.RowKit Px Base
theorem rd_param {w : World} {sz n b o : Nat} {xs : List Value} (hr : Rd w w.heap.size sz (some ⟨b, o, none⟩) n xs) (hn : 0 < n) : b < w.heap.size ∧ ∀ j u, xs[j]? = some u → rdM w none b (o + j) = some u := by
  obtain ⟨b', o', e, hb, hc⟩ := hr.2 hn
  have e := Option.some.inj e
  injection e with e1 e2 e3
  subst e1; subst e2
  exact ⟨hb, fun j u hj => by unfold rdM; simp only; rw [if_pos hb]; exact hc j u hj⟩
theorem rd_param_addr {w : World} {sz n : Nat} {A : Option Addr} {xs : List Value} (hr : Rd w w.heap.size sz A n xs) (hn : 0 < n) : ∃ b o, A = some ⟨b, o, none⟩ := by
  obtain ⟨b, o, h, _⟩ := hr.2 hn; exact ⟨b, o, h⟩
def nxt (c n : Int) : Int := if c < n ∧ n ≤ 1099511627776 then n else c
theorem raise_to (b : Nat) (m : List UInt8) (c n : Int) (w0 : World) (HR : Int → PH) (hm : ∀ c, (HR c).m b = some ⟨[str m, .int .i64 c], 2⟩) (hn : ∀ c n, (HR c).new b ⟨[str m, .int .i64 n], 2⟩ = HR n) :
    PCalls Try.prog w0 9 [.pointer (some ⟨b, 0, none⟩), .int .i64 n] (HR c) fun v h' => v = .bool (decide (c < n ∧ n ≤ 1099511627776)) ∧ h' = HR (nxt c n) := by
  by_cases hup : c < n ∧ n ≤ 1099511627776
  · have hx : nxt c n = n := by unfold nxt; rw [if_pos hup]
    rw [decide_eq_true hup, hx, ← hn c n]
    exact raise_up b m c n w0 (HR c) hup (hm c)
  · have hx : nxt c n = c := by unfold nxt; rw [if_neg hup]
    rw [decide_eq_false hup, hx]
    exact raise_not b m c n w0 (HR c) hup (hm c)
end Go.Proofs.Ytliddgidkmkpkaa
