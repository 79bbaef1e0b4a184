/-
  No cell of these rows narrows 'for every input' (looked for: loops, veiled, ifaces, maps, wideKeys, modest, calm, conditions, laid).
  DERIVED. THE GIVEN ROWS OF THIS SEAT. 3 by the template 'for every input the law returns true; each argument reads behind the call as it read before'; 0 by the template 'total and deterministic' (their statements: YteefmkjnepcanaaTotals.lean).
  GIVEN WITH THE SEED: the statements are not yours to turn. If you find one false, say at which input.
  Laid BY PROGRAM, IN A SANDBOX (cutbox-rows.mjs): the forced cells as the released guide's own fill.sh prints them over the translation fbe4b16f0f72f06b… (all of the seat's roots in one cut). By AI agents, Wed Nov 11 2026. No macro, syntax, notation, axiom, sorry.
-/
import Derived.Test.YteefmkjnepcanaaChecked
import GoSem.Claim
import GoSem.ClaimJoined
import GoSem.ClaimMapViews
import Derived.JoinedTies
import Derived.KernelRfl
namespace Go.Proofs.Yteefmkjnepcanaa
/- THE CELL 'sum', in the pinned program and in every row, IS THE sha256 OF THE DUMP (.gsa) THAT YteefmkjnepcanaaProg.lean LOADS. Nothing in Lean hashes anything: it is a label: what it is worth is what the hold of that sum in a sandbox is worth. -/
noncomputable def Try.pinned : Pinned := { name := "yteefmkjnepcanaa", sum := "fbe4b16f0f72f06bc74a7bb50396ac04316d97db0e5e82a0497265738fb92358", checked := Try.checked }
namespace Rows
def none {H : Type} : Left H := { results := [], args := [] }

/-- 'sojournlaw04.TextLetters': WHATEVER THE INPUT: true; the input reads as it did. -/
def textLettersSpec : ChangeSpec := { name := "textLetters", fn := fun _ => fun
  | [d] => { results := [.lit (.bool true)], args := [d] }
  | _ => none }
def textLettersRow : OpenClaim := { program := "yteefmkjnepcanaa", sum := "fbe4b16f0f72f06bc74a7bb50396ac04316d97db0e5e82a0497265738fb92358", func := "sojourn/sojournlaw04.TextLetters", spec := "textLetters", inPlace := ["internal/bytealg.IndexByteString"], apart := false }
def TextLettersSaid : Prop := textLettersRow.holds Try.pinned (OpenSpec.ofChange textLettersSpec)

/-- ITS FALSE NEIGHBOUR: 'it returns false'. Refute it at one input. -/
def textLettersWrong : ChangeSpec := { name := "textLetters", fn := fun _ => fun
  | [d] => { results := [.lit (.bool false)], args := [d] }
  | _ => none }
def TextLettersWrongFalsely : Prop := textLettersRow.holds Try.pinned (OpenSpec.ofChange textLettersWrong)

/-- 'sojournlaw04.TextJoins': WHATEVER THE INPUT: true; the input reads as it did. -/
def textJoinsSpec : ChangeSpec := { name := "textJoins", fn := fun _ => fun
  | [d1, d2] => { results := [.lit (.bool true)], args := [d1, d2] }
  | _ => none }
def textJoinsRow : OpenClaim := { program := "yteefmkjnepcanaa", sum := "fbe4b16f0f72f06bc74a7bb50396ac04316d97db0e5e82a0497265738fb92358", func := "sojourn/sojournlaw04.TextJoins", spec := "textJoins", inPlace := ["internal/bytealg.IndexByteString"], apart := false }
def TextJoinsSaid : Prop := textJoinsRow.holds Try.pinned (OpenSpec.ofChange textJoinsSpec)

/-- ITS FALSE NEIGHBOUR: 'it returns false'. Refute it at one input. -/
def textJoinsWrong : ChangeSpec := { name := "textJoins", fn := fun _ => fun
  | [d1, d2] => { results := [.lit (.bool false)], args := [d1, d2] }
  | _ => none }
def TextJoinsWrongFalsely : Prop := textJoinsRow.holds Try.pinned (OpenSpec.ofChange textJoinsWrong)

/-- 'sojournlaw04.TextOctets': WHATEVER THE INPUT: true; the input reads as it did. -/
def textOctetsSpec : ChangeSpec := { name := "textOctets", fn := fun _ => fun
  | [d] => { results := [.lit (.bool true)], args := [d] }
  | _ => none }
def textOctetsRow : OpenClaim := { program := "yteefmkjnepcanaa", sum := "fbe4b16f0f72f06bc74a7bb50396ac04316d97db0e5e82a0497265738fb92358", func := "sojourn/sojournlaw04.TextOctets", spec := "textOctets", inPlace := ["internal/bytealg.IndexByteString"], unfollowed := true, recurses := true, apart := false }
def TextOctetsSaid : Prop := textOctetsRow.holds Try.pinned (OpenSpec.ofChange textOctetsSpec)

/-- ITS FALSE NEIGHBOUR: 'it returns false'. Refute it at one input. -/
def textOctetsWrong : ChangeSpec := { name := "textOctets", fn := fun _ => fun
  | [d] => { results := [.lit (.bool false)], args := [d] }
  | _ => none }
def TextOctetsWrongFalsely : Prop := textOctetsRow.holds Try.pinned (OpenSpec.ofChange textOctetsWrong)

/- THE SECOND FORM. 'bulk': how many values and letters a reading holds, each counted each time it is reached (what is shared counts as often as it is met; a slice's spare places count too). A statement '..UptoSaid' is the law's where the arguments, and the package variables that the reading takes, are together of bulk at most 1048576: NARROWER than '..Said'. Prove '..Said' where nothing that the law and all that it calls make is longer than what came in: it says more and counts as full. Else prove '..UptoSaid'. A law counts once. -/
mutual
def uptoBulk {H : Type} : DataW H → Nat
  | .lit (.string bytes) => bytes.length + 1
  | .lit _ => 1
  | .nil => 1
  | .ptr d => uptoBulk d + 1
  | .slice elems spare => uptoBulkAll elems + uptoBulkAll spare + 1
  | .agg parts => uptoBulkAll parts + 1
  | .iface _ d => uptoBulk d + 1
  | .map entries => uptoBulkEntries entries + 1
  | .held _ => 1
def uptoBulkAll {H : Type} : List (DataW H) → Nat
  | [] => 0
  | d :: r => uptoBulk d + uptoBulkAll r
def uptoBulkEntries {H : Type} : List (Lit × DataW H) → Nat
  | [] => 0
  | x :: r => uptoBulkEntry x + uptoBulkEntries r
def uptoBulkEntry {H : Type} : Lit × DataW H → Nat
  | (.string bytes, d) => bytes.length + uptoBulk d + 1
  | (_, d) => uptoBulk d + 1
 end
def uptoSmall : (H : Type) → List (DataW H) → Bool := fun _ ds => decide (uptoBulkAll ds ≤ 1048576)
def OpenSpec.upto (s : _root_.Go.ChangeSpec) : _root_.Go.OpenSpec := { _root_.Go.OpenSpec.ofChange s with cond := some uptoSmall }

/-- 'sojournlaw04.TextLetters', WHERE WHAT IT READS IS OF BULK AT MOST 1048576: true; the input reads as it did. -/
def textLettersUptoRow : OpenClaim := { program := "yteefmkjnepcanaa", sum := "fbe4b16f0f72f06bc74a7bb50396ac04316d97db0e5e82a0497265738fb92358", func := "sojourn/sojournlaw04.TextLetters", spec := "textLetters", inPlace := ["internal/bytealg.IndexByteString"], apart := false, narrowed := true }
def TextLettersUptoSaid : Prop := textLettersUptoRow.holds Try.pinned (OpenSpec.upto textLettersSpec)

/-- 'sojournlaw04.TextJoins', WHERE WHAT IT READS IS OF BULK AT MOST 1048576: true; the input reads as it did. -/
def textJoinsUptoRow : OpenClaim := { program := "yteefmkjnepcanaa", sum := "fbe4b16f0f72f06bc74a7bb50396ac04316d97db0e5e82a0497265738fb92358", func := "sojourn/sojournlaw04.TextJoins", spec := "textJoins", inPlace := ["internal/bytealg.IndexByteString"], apart := false, narrowed := true }
def TextJoinsUptoSaid : Prop := textJoinsUptoRow.holds Try.pinned (OpenSpec.upto textJoinsSpec)

/-- 'sojournlaw04.TextOctets', WHERE WHAT IT READS IS OF BULK AT MOST 1048576: true; the input reads as it did. -/
def textOctetsUptoRow : OpenClaim := { program := "yteefmkjnepcanaa", sum := "fbe4b16f0f72f06bc74a7bb50396ac04316d97db0e5e82a0497265738fb92358", func := "sojourn/sojournlaw04.TextOctets", spec := "textOctets", inPlace := ["internal/bytealg.IndexByteString"], unfollowed := true, recurses := true, apart := false, narrowed := true }
def TextOctetsUptoSaid : Prop := textOctetsUptoRow.holds Try.pinned (OpenSpec.upto textOctetsSpec)

end Rows
end Go.Proofs.Yteefmkjnepcanaa
