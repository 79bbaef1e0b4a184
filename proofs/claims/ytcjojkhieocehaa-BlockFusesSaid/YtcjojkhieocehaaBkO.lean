/- The law's structs, opened. No condition. -/
import Derived.Test.YtcjojkhieocehaaBk6
import Derived.Test.YtcjojkhieocehaaBase
namespace Go.Proofs.Ytcjojkhieocehaa
set_option linter.unusedVariables false
set_option linter.unusedSimpArgs false
open Go.ChangeShapes Go.WideShapes Go.ChangeAt Go.RowKit Base Px
theorem trod_str {H : Type} {enc : TypeId × Value → H} {w : World} {base : Nat} {spare : Nat → Bool} {held : Bool} {n : Nat} {t : TypeId} {u : Value} {y : DataW H × List MemPlace} (ht : Try.prog.underlying t = some .string) (h : DataW.trod enc Try.prog w base spare held n t [u] = some y) : ∃ l : List UInt8, u = str l ∧ l.length ≤ maxLen := by
  obtain ⟨s, h1, _, h2⟩ := DataW.trod_string ht h
  simp at h1
  subst h1
  exact ⟨s.data.toList, rfl, h2⟩
theorem trod_i64 {H : Type} {enc : TypeId × Value → H} {w : World} {base : Nat} {spare : Nat → Bool} {held : Bool} {n : Nat} {t : TypeId} {u : Value} {y : DataW H × List MemPlace} (ht : Try.prog.underlying t = some (.int .i64)) (h : DataW.trod enc Try.prog w base spare held n t [u] = some y) : ∃ a : Int, u = .int .i64 a := by
  obtain ⟨a, h1, _, _⟩ := DataW.trod_int ht h
  simp at h1
  exact ⟨a, h1⟩
theorem open_op {H : Type} {enc : TypeId × Value → H} {w : World} {base b0 : Nat} {spare : Nat → Bool} {held : Bool} {r : Reach} {v : Value} {d : DataW H} {p : List MemPlace}
    (hv : Value.okWide Try.prog w r b0 33 v) (h : DataW.Trod enc Try.prog w base spare held 33 v d p) :
    ∃ (k : Int) (s : List UInt8) (n m : Int), v = .agg #[.int .i64 k, str s, .int .i64 n, .int .i64 m] := by
  obtain ⟨l, n, rfl, hl, hat⟩ := open_struct Try.underlying33 (by kernel_rfl) (by kernel_rfl) hv h
  match l, hl with
  | [c0, c1, c2, c3], _ =>
    obtain ⟨_, _, e0, t0⟩ := hat 0 _ rfl
    obtain ⟨_, _, e1, t1⟩ := hat 1 _ rfl
    obtain ⟨_, _, e2, t2⟩ := hat 2 _ rfl
    obtain ⟨_, _, e3, t3⟩ := hat 3 _ rfl
    obtain ⟨n0, rfl⟩ := trod_i64 Try.underlying3 t0
    obtain ⟨s1, rfl, _⟩ := trod_str Try.underlying9 t1
    obtain ⟨n2, rfl⟩ := trod_i64 Try.underlying3 t2
    obtain ⟨n3, rfl⟩ := trod_i64 Try.underlying3 t3
    simp at e0 e1 e2 e3
    subst e0 e1 e2 e3
    exact ⟨n0, s1, n2, n3, rfl⟩
end Go.Proofs.Ytcjojkhieocehaa
