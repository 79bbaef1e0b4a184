/-
  No cell of these rows narrows 'for every input' (looked for: loops, veiled, ifaces, maps, wideKeys, modest, calm, conditions, laid).
  DERIVED. THE GIVEN ROWS OF THIS SEAT. 4 by the template 'for every input the law returns true; each argument reads behind the call as it read before'; 0 by the template 'total and deterministic' (their statements: YtccjkjghapflfaaTotals.lean).
  GIVEN WITH THE SEED: the statements are not yours to turn. If you find one false, say at which input.
  Laid BY PROGRAM, IN A SANDBOX (cutbox-rows.mjs): the forced cells as the released guide's own fill.sh prints them over the translation 7350c6b5c7e780e6… (all of the seat's roots in one cut). By AI agents, Wed Nov 11 2026. No macro, syntax, notation, axiom, sorry.
-/
import Derived.Test.YtccjkjghapflfaaChecked
import GoSem.Claim
import GoSem.ClaimJoined
import GoSem.ClaimMapViews
import Derived.JoinedTies
import Derived.KernelRfl
namespace Go.Proofs.Ytccjkjghapflfaa
/- THE CELL 'sum', in the pinned program and in every row, IS THE sha256 OF THE DUMP (.gsa) THAT YtccjkjghapflfaaProg.lean LOADS. Nothing in Lean hashes anything: it is a label: what it is worth is what the hold of that sum in a sandbox is worth. -/
noncomputable def Try.pinned : Pinned := { name := "ytccjkjghapflfaa", sum := "7350c6b5c7e780e626afcbb61c074d6a39a9eb6fbfe64b5828e4bd6f027a1337", checked := Try.checked }
namespace Rows
def none {H : Type} : Left H := { results := [], args := [] }

/-- 'sojournlaw03.MacDigests': WHATEVER THE INPUT: true; the input reads as it did. -/
def macDigestsSpec : ChangeSpec := { name := "macDigests", fn := fun _ => fun
  | [d] => { results := [.lit (.bool true)], args := [d] }
  | _ => none }
def macDigestsRow : OpenClaim := { program := "ytccjkjghapflfaa", sum := "7350c6b5c7e780e626afcbb61c074d6a39a9eb6fbfe64b5828e4bd6f027a1337", func := "sojourn/sojournlaw03.MacDigests", spec := "macDigests", apart := false }
def MacDigestsSaid : Prop := macDigestsRow.holds Try.pinned (OpenSpec.ofChange macDigestsSpec)

/-- ITS FALSE NEIGHBOUR: 'it returns false'. Refute it at one input. -/
def macDigestsWrong : ChangeSpec := { name := "macDigests", fn := fun _ => fun
  | [d] => { results := [.lit (.bool false)], args := [d] }
  | _ => none }
def MacDigestsWrongFalsely : Prop := macDigestsRow.holds Try.pinned (OpenSpec.ofChange macDigestsWrong)

/-- 'sojournlaw03.MacEquals': WHATEVER THE INPUT: true; the input reads as it did. -/
def macEqualsSpec : ChangeSpec := { name := "macEquals", fn := fun _ => fun
  | [d1, d2] => { results := [.lit (.bool true)], args := [d1, d2] }
  | _ => none }
def macEqualsRow : OpenClaim := { program := "ytccjkjghapflfaa", sum := "7350c6b5c7e780e626afcbb61c074d6a39a9eb6fbfe64b5828e4bd6f027a1337", func := "sojourn/sojournlaw03.MacEquals", spec := "macEquals", apart := false }
def MacEqualsSaid : Prop := macEqualsRow.holds Try.pinned (OpenSpec.ofChange macEqualsSpec)

/-- ITS FALSE NEIGHBOUR: 'it returns false'. Refute it at one input. -/
def macEqualsWrong : ChangeSpec := { name := "macEquals", fn := fun _ => fun
  | [d1, d2] => { results := [.lit (.bool false)], args := [d1, d2] }
  | _ => none }
def MacEqualsWrongFalsely : Prop := macEqualsRow.holds Try.pinned (OpenSpec.ofChange macEqualsWrong)

/-- 'sojournlaw03.MacTags': WHATEVER THE INPUT: true; the input reads as it did. -/
def macTagsSpec : ChangeSpec := { name := "macTags", fn := fun _ => fun
  | [d1, d2] => { results := [.lit (.bool true)], args := [d1, d2] }
  | _ => none }
def macTagsRow : OpenClaim := { program := "ytccjkjghapflfaa", sum := "7350c6b5c7e780e626afcbb61c074d6a39a9eb6fbfe64b5828e4bd6f027a1337", func := "sojourn/sojournlaw03.MacTags", spec := "macTags", apart := false }
def MacTagsSaid : Prop := macTagsRow.holds Try.pinned (OpenSpec.ofChange macTagsSpec)

/-- ITS FALSE NEIGHBOUR: 'it returns false'. Refute it at one input. -/
def macTagsWrong : ChangeSpec := { name := "macTags", fn := fun _ => fun
  | [d1, d2] => { results := [.lit (.bool false)], args := [d1, d2] }
  | _ => none }
def MacTagsWrongFalsely : Prop := macTagsRow.holds Try.pinned (OpenSpec.ofChange macTagsWrong)

/-- 'sojournlaw03.MacDerives': WHATEVER THE INPUT: true; the input reads as it did. -/
def macDerivesSpec : ChangeSpec := { name := "macDerives", fn := fun _ => fun
  | [d1, d2] => { results := [.lit (.bool true)], args := [d1, d2] }
  | _ => none }
def macDerivesRow : OpenClaim := { program := "ytccjkjghapflfaa", sum := "7350c6b5c7e780e626afcbb61c074d6a39a9eb6fbfe64b5828e4bd6f027a1337", func := "sojourn/sojournlaw03.MacDerives", spec := "macDerives", apart := false }
def MacDerivesSaid : Prop := macDerivesRow.holds Try.pinned (OpenSpec.ofChange macDerivesSpec)

/-- ITS FALSE NEIGHBOUR: 'it returns false'. Refute it at one input. -/
def macDerivesWrong : ChangeSpec := { name := "macDerives", fn := fun _ => fun
  | [d1, d2] => { results := [.lit (.bool false)], args := [d1, d2] }
  | _ => none }
def MacDerivesWrongFalsely : Prop := macDerivesRow.holds Try.pinned (OpenSpec.ofChange macDerivesWrong)

/- THE SECOND FORM. 'bulk': how many values and letters a reading holds, each counted each time it is reached (what is shared counts as often as it is met; a slice's spare places count too). A statement '..UptoSaid' is the law's where the arguments, and the package variables that the reading takes, are together of bulk at most 1048576: NARROWER than '..Said'. Prove '..Said' where nothing that the law and all that it calls make is longer than what came in: it says more and counts as full. Else prove '..UptoSaid'. A law counts once. -/
mutual
def uptoBulk {H : Type} : DataW H → Nat
  | .lit (.string bytes) => bytes.length + 1
  | .lit _ => 1
  | .nil => 1
  | .ptr d => uptoBulk d + 1
  | .slice elems spare => uptoBulkAll elems + uptoBulkAll spare + 1
  | .agg parts => uptoBulkAll parts + 1
  | .iface _ d => uptoBulk d + 1
  | .map entries => uptoBulkEntries entries + 1
  | .held _ => 1
def uptoBulkAll {H : Type} : List (DataW H) → Nat
  | [] => 0
  | d :: r => uptoBulk d + uptoBulkAll r
def uptoBulkEntries {H : Type} : List (Lit × DataW H) → Nat
  | [] => 0
  | x :: r => uptoBulkEntry x + uptoBulkEntries r
def uptoBulkEntry {H : Type} : Lit × DataW H → Nat
  | (.string bytes, d) => bytes.length + uptoBulk d + 1
  | (_, d) => uptoBulk d + 1
 end
def uptoSmall : (H : Type) → List (DataW H) → Bool := fun _ ds => decide (uptoBulkAll ds ≤ 1048576)
def OpenSpec.upto (s : _root_.Go.ChangeSpec) : _root_.Go.OpenSpec := { _root_.Go.OpenSpec.ofChange s with cond := some uptoSmall }

/-- 'sojournlaw03.MacDigests', WHERE WHAT IT READS IS OF BULK AT MOST 1048576: true; the input reads as it did. -/
def macDigestsUptoRow : OpenClaim := { program := "ytccjkjghapflfaa", sum := "7350c6b5c7e780e626afcbb61c074d6a39a9eb6fbfe64b5828e4bd6f027a1337", func := "sojourn/sojournlaw03.MacDigests", spec := "macDigests", apart := false, narrowed := true }
def MacDigestsUptoSaid : Prop := macDigestsUptoRow.holds Try.pinned (OpenSpec.upto macDigestsSpec)

/-- 'sojournlaw03.MacEquals', WHERE WHAT IT READS IS OF BULK AT MOST 1048576: true; the input reads as it did. -/
def macEqualsUptoRow : OpenClaim := { program := "ytccjkjghapflfaa", sum := "7350c6b5c7e780e626afcbb61c074d6a39a9eb6fbfe64b5828e4bd6f027a1337", func := "sojourn/sojournlaw03.MacEquals", spec := "macEquals", apart := false, narrowed := true }
def MacEqualsUptoSaid : Prop := macEqualsUptoRow.holds Try.pinned (OpenSpec.upto macEqualsSpec)

/-- 'sojournlaw03.MacTags', WHERE WHAT IT READS IS OF BULK AT MOST 1048576: true; the input reads as it did. -/
def macTagsUptoRow : OpenClaim := { program := "ytccjkjghapflfaa", sum := "7350c6b5c7e780e626afcbb61c074d6a39a9eb6fbfe64b5828e4bd6f027a1337", func := "sojourn/sojournlaw03.MacTags", spec := "macTags", apart := false, narrowed := true }
def MacTagsUptoSaid : Prop := macTagsUptoRow.holds Try.pinned (OpenSpec.upto macTagsSpec)

/-- 'sojournlaw03.MacDerives', WHERE WHAT IT READS IS OF BULK AT MOST 1048576: true; the input reads as it did. -/
def macDerivesUptoRow : OpenClaim := { program := "ytccjkjghapflfaa", sum := "7350c6b5c7e780e626afcbb61c074d6a39a9eb6fbfe64b5828e4bd6f027a1337", func := "sojourn/sojournlaw03.MacDerives", spec := "macDerives", apart := false, narrowed := true }
def MacDerivesUptoSaid : Prop := macDerivesUptoRow.holds Try.pinned (OpenSpec.upto macDerivesSpec)

end Rows
end Go.Proofs.Ytccjkjghapflfaa
