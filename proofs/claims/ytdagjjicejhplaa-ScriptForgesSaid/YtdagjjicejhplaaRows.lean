/-
  No cell of these rows narrows 'for every input' (looked for: loops, veiled, ifaces, maps, wideKeys, modest, calm, conditions, laid).
  DERIVED. THE GIVEN ROWS OF THIS SEAT. 4 by the template 'for every input the law returns true; each argument reads behind the call as it read before'; 0 by the template 'total and deterministic' (their statements: YtdagjjicejhplaaTotals.lean).
  GIVEN WITH THE SEED: the statements are not yours to turn. If you find one false, say at which input.
  Laid BY PROGRAM, IN A SANDBOX (cutbox-rows.mjs): the forced cells as the released guide's own fill.sh prints them over the translation f17de3dd54380e37… (all of the seat's roots in one cut). By AI agents, Wed Nov 11 2026. No macro, syntax, notation, axiom, sorry.
-/
import Derived.Test.YtdagjjicejhplaaChecked
import GoSem.Claim
import GoSem.ClaimJoined
import GoSem.ClaimMapViews
import Derived.JoinedTies
import Derived.KernelRfl
namespace Go.Proofs.Ytdagjjicejhplaa
/- THE CELL 'sum', in the pinned program and in every row, IS THE sha256 OF THE DUMP (.gsa) THAT YtdagjjicejhplaaProg.lean LOADS. Nothing in Lean hashes anything: it is a label: what it is worth is what the hold of that sum in a sandbox is worth. -/
noncomputable def Try.pinned : Pinned := { name := "ytdagjjicejhplaa", sum := "f17de3dd54380e3798b167fae0732d3ee9b52d9e7e8961c6fbd2b8c40444dcff", checked := Try.checked }
namespace Rows
def none {H : Type} : Left H := { results := [], args := [] }

/-- 'sojournlaw26.ScriptAsks': WHATEVER THE INPUT: true; the input reads as it did. -/
def scriptAsksSpec : ChangeSpec := { name := "scriptAsks", fn := fun _ => fun
  | [d] => { results := [.lit (.bool true)], args := [d] }
  | _ => none }
def scriptAsksRow : OpenClaim := { program := "ytdagjjicejhplaa", sum := "f17de3dd54380e3798b167fae0732d3ee9b52d9e7e8961c6fbd2b8c40444dcff", func := "sojourn/sojournlaw26.ScriptAsks", spec := "scriptAsks", apart := false }
def ScriptAsksSaid : Prop := scriptAsksRow.holds Try.pinned (OpenSpec.ofChange scriptAsksSpec)

/-- ITS FALSE NEIGHBOUR: 'it returns false'. Refute it at one input. -/
def scriptAsksWrong : ChangeSpec := { name := "scriptAsks", fn := fun _ => fun
  | [d] => { results := [.lit (.bool false)], args := [d] }
  | _ => none }
def ScriptAsksWrongFalsely : Prop := scriptAsksRow.holds Try.pinned (OpenSpec.ofChange scriptAsksWrong)

/-- 'sojournlaw26.ScriptReads': WHATEVER THE INPUT: true; the input reads as it did. -/
def scriptReadsSpec : ChangeSpec := { name := "scriptReads", fn := fun _ => fun
  | [d] => { results := [.lit (.bool true)], args := [d] }
  | _ => none }
def scriptReadsRow : OpenClaim := { program := "ytdagjjicejhplaa", sum := "f17de3dd54380e3798b167fae0732d3ee9b52d9e7e8961c6fbd2b8c40444dcff", func := "sojourn/sojournlaw26.ScriptReads", spec := "scriptReads", apart := false }
def ScriptReadsSaid : Prop := scriptReadsRow.holds Try.pinned (OpenSpec.ofChange scriptReadsSpec)

/-- ITS FALSE NEIGHBOUR: 'it returns false'. Refute it at one input. -/
def scriptReadsWrong : ChangeSpec := { name := "scriptReads", fn := fun _ => fun
  | [d] => { results := [.lit (.bool false)], args := [d] }
  | _ => none }
def ScriptReadsWrongFalsely : Prop := scriptReadsRow.holds Try.pinned (OpenSpec.ofChange scriptReadsWrong)

/-- 'sojournlaw26.ScriptBytes': WHATEVER THE INPUT: true; the input reads as it did. -/
def scriptBytesSpec : ChangeSpec := { name := "scriptBytes", fn := fun _ => fun
  | [d] => { results := [.lit (.bool true)], args := [d] }
  | _ => none }
def scriptBytesRow : OpenClaim := { program := "ytdagjjicejhplaa", sum := "f17de3dd54380e3798b167fae0732d3ee9b52d9e7e8961c6fbd2b8c40444dcff", func := "sojourn/sojournlaw26.ScriptBytes", spec := "scriptBytes", apart := false }
def ScriptBytesSaid : Prop := scriptBytesRow.holds Try.pinned (OpenSpec.ofChange scriptBytesSpec)

/-- ITS FALSE NEIGHBOUR: 'it returns false'. Refute it at one input. -/
def scriptBytesWrong : ChangeSpec := { name := "scriptBytes", fn := fun _ => fun
  | [d] => { results := [.lit (.bool false)], args := [d] }
  | _ => none }
def ScriptBytesWrongFalsely : Prop := scriptBytesRow.holds Try.pinned (OpenSpec.ofChange scriptBytesWrong)

/-- 'sojournlaw26.ScriptForges': WHATEVER THE INPUT: true; the input reads as it did. -/
def scriptForgesSpec : ChangeSpec := { name := "scriptForges", fn := fun _ => fun
  | [d1, d2] => { results := [.lit (.bool true)], args := [d1, d2] }
  | _ => none }
def scriptForgesRow : OpenClaim := { program := "ytdagjjicejhplaa", sum := "f17de3dd54380e3798b167fae0732d3ee9b52d9e7e8961c6fbd2b8c40444dcff", func := "sojourn/sojournlaw26.ScriptForges", spec := "scriptForges", inPlace := ["internal/abi.NoEscape", "internal/bytealg.MakeNoZero"], apart := false }
def ScriptForgesSaid : Prop := scriptForgesRow.holds Try.pinned (OpenSpec.ofChange scriptForgesSpec)

/-- ITS FALSE NEIGHBOUR: 'it returns false'. Refute it at one input. -/
def scriptForgesWrong : ChangeSpec := { name := "scriptForges", fn := fun _ => fun
  | [d1, d2] => { results := [.lit (.bool false)], args := [d1, d2] }
  | _ => none }
def ScriptForgesWrongFalsely : Prop := scriptForgesRow.holds Try.pinned (OpenSpec.ofChange scriptForgesWrong)

/- THE SECOND FORM. 'bulk': how many values and letters a reading holds, each counted each time it is reached (what is shared counts as often as it is met; a slice's spare places count too). A statement '..UptoSaid' is the law's where the arguments, and the package variables that the reading takes, are together of bulk at most 1048576: NARROWER than '..Said'. Prove '..Said' where nothing that the law and all that it calls make is longer than what came in: it says more and counts as full. Else prove '..UptoSaid'. A law counts once. -/
mutual
def uptoBulk {H : Type} : DataW H → Nat
  | .lit (.string bytes) => bytes.length + 1
  | .lit _ => 1
  | .nil => 1
  | .ptr d => uptoBulk d + 1
  | .slice elems spare => uptoBulkAll elems + uptoBulkAll spare + 1
  | .agg parts => uptoBulkAll parts + 1
  | .iface _ d => uptoBulk d + 1
  | .map entries => uptoBulkEntries entries + 1
  | .held _ => 1
def uptoBulkAll {H : Type} : List (DataW H) → Nat
  | [] => 0
  | d :: r => uptoBulk d + uptoBulkAll r
def uptoBulkEntries {H : Type} : List (Lit × DataW H) → Nat
  | [] => 0
  | x :: r => uptoBulkEntry x + uptoBulkEntries r
def uptoBulkEntry {H : Type} : Lit × DataW H → Nat
  | (.string bytes, d) => bytes.length + uptoBulk d + 1
  | (_, d) => uptoBulk d + 1
 end
def uptoSmall : (H : Type) → List (DataW H) → Bool := fun _ ds => decide (uptoBulkAll ds ≤ 1048576)
def OpenSpec.upto (s : _root_.Go.ChangeSpec) : _root_.Go.OpenSpec := { _root_.Go.OpenSpec.ofChange s with cond := some uptoSmall }

/-- 'sojournlaw26.ScriptAsks', WHERE WHAT IT READS IS OF BULK AT MOST 1048576: true; the input reads as it did. -/
def scriptAsksUptoRow : OpenClaim := { program := "ytdagjjicejhplaa", sum := "f17de3dd54380e3798b167fae0732d3ee9b52d9e7e8961c6fbd2b8c40444dcff", func := "sojourn/sojournlaw26.ScriptAsks", spec := "scriptAsks", apart := false, narrowed := true }
def ScriptAsksUptoSaid : Prop := scriptAsksUptoRow.holds Try.pinned (OpenSpec.upto scriptAsksSpec)

/-- 'sojournlaw26.ScriptReads', WHERE WHAT IT READS IS OF BULK AT MOST 1048576: true; the input reads as it did. -/
def scriptReadsUptoRow : OpenClaim := { program := "ytdagjjicejhplaa", sum := "f17de3dd54380e3798b167fae0732d3ee9b52d9e7e8961c6fbd2b8c40444dcff", func := "sojourn/sojournlaw26.ScriptReads", spec := "scriptReads", apart := false, narrowed := true }
def ScriptReadsUptoSaid : Prop := scriptReadsUptoRow.holds Try.pinned (OpenSpec.upto scriptReadsSpec)

/-- 'sojournlaw26.ScriptBytes', WHERE WHAT IT READS IS OF BULK AT MOST 1048576: true; the input reads as it did. -/
def scriptBytesUptoRow : OpenClaim := { program := "ytdagjjicejhplaa", sum := "f17de3dd54380e3798b167fae0732d3ee9b52d9e7e8961c6fbd2b8c40444dcff", func := "sojourn/sojournlaw26.ScriptBytes", spec := "scriptBytes", apart := false, narrowed := true }
def ScriptBytesUptoSaid : Prop := scriptBytesUptoRow.holds Try.pinned (OpenSpec.upto scriptBytesSpec)

/-- 'sojournlaw26.ScriptForges', WHERE WHAT IT READS IS OF BULK AT MOST 1048576: true; the input reads as it did. -/
def scriptForgesUptoRow : OpenClaim := { program := "ytdagjjicejhplaa", sum := "f17de3dd54380e3798b167fae0732d3ee9b52d9e7e8961c6fbd2b8c40444dcff", func := "sojourn/sojournlaw26.ScriptForges", spec := "scriptForges", inPlace := ["internal/abi.NoEscape", "internal/bytealg.MakeNoZero"], apart := false, narrowed := true }
def ScriptForgesUptoSaid : Prop := scriptForgesUptoRow.holds Try.pinned (OpenSpec.upto scriptForgesSpec)

end Rows
end Go.Proofs.Ytdagjjicejhplaa
