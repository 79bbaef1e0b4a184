/- An event that comes in is six numbers. No condition. -/
import Derived.Test.YtdagjjicejhplaaBase
namespace Go.Proofs.Ytdagjjicejhplaa
set_option linter.unusedVariables false
set_option linter.unusedSimpArgs false
open Go.ChangeShapes Go.WideShapes Go.ChangeAt Go.RowKit Go.Deep Base
theorem open_op6 {H : Type} {enc : TypeId × Value → H} {w : World} {base b0 : Nat} {spare : Nat → Bool} {held : Bool} {r : Reach} {v : Value} {d : DataW H} {p : List MemPlace}
    (hv : Value.okWide Try.prog w r b0 23 v) (h : DataW.Trod enc Try.prog w base spare held 23 v d p) :
    ∃ k a b c d e : Int, v = .agg #[.int .i64 k, .int .i64 a, .int .i64 b, .int .i64 c, .int .i64 d, .int .i64 e] := by
  obtain ⟨l, n, rfl, hl, hat⟩ := open_struct Try.underlying23 (by kernel_rfl) (by kernel_rfl) hv h
  match l, hl with
  | [c0, c1, c2, c3, c4, c5], _ =>
    obtain ⟨_, _, e0, t0⟩ := hat 0 _ rfl
    obtain ⟨_, _, e1, t1⟩ := hat 1 _ rfl
    obtain ⟨_, _, e2, t2⟩ := hat 2 _ rfl
    obtain ⟨_, _, e3, t3⟩ := hat 3 _ rfl
    obtain ⟨_, _, e4, t4⟩ := hat 4 _ rfl
    obtain ⟨_, _, e5, t5⟩ := hat 5 _ rfl
    obtain ⟨n0, h0, _, _⟩ := DataW.trod_int Try.underlying3 t0
    obtain ⟨n1, h1, _, _⟩ := DataW.trod_int Try.underlying3 t1
    obtain ⟨n2, h2, _, _⟩ := DataW.trod_int Try.underlying3 t2
    obtain ⟨n3, h3, _, _⟩ := DataW.trod_int Try.underlying3 t3
    obtain ⟨n4, h4, _, _⟩ := DataW.trod_int Try.underlying3 t4
    obtain ⟨n5, h5, _, _⟩ := DataW.trod_int Try.underlying3 t5
    simp at e0 e1 e2 e3 e4 e5 h0 h1 h2 h3 h4 h5
    subst e0 e1 e2 e3 e4 e5 h0 h1 h2 h3 h4 h5
    exact ⟨n0, n1, n2, n3, n4, n5, rfl⟩
end Go.Proofs.Ytdagjjicejhplaa
