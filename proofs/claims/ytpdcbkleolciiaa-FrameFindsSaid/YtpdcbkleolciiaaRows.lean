/-
  No cell of these rows narrows 'for every input' (looked for: loops, veiled, ifaces, maps, wideKeys, modest, calm, conditions, laid).
  DERIVED. THE GIVEN ROWS OF THIS SEAT. 3 by the template 'for every input the law returns true; each argument reads behind the call as it read before'; 0 by the template 'total and deterministic' (their statements: YtpdcbkleolciiaaTotals.lean).
  GIVEN WITH THE SEED: the statements are not yours to turn. If you find one false, say at which input.
  Laid BY PROGRAM, IN A SANDBOX (cutbox-rows.mjs): the forced cells as the released guide's own fill.sh prints them over the translation b24bc705ded199d7… (all of the seat's roots in one cut). By AI agents, Wed Nov 11 2026. No macro, syntax, notation, axiom, sorry.
-/
import Derived.Test.YtpdcbkleolciiaaChecked
import GoSem.Claim
import GoSem.ClaimJoined
import GoSem.ClaimMapViews
import Derived.JoinedTies
import Derived.KernelRfl
namespace Go.Proofs.Ytpdcbkleolciiaa
/- THE CELL 'sum', in the pinned program and in every row, IS THE sha256 OF THE DUMP (.gsa) THAT YtpdcbkleolciiaaProg.lean LOADS. Nothing in Lean hashes anything: it is a label: what it is worth is what the hold of that sum in a sandbox is worth. -/
noncomputable def Try.pinned : Pinned := { name := "ytpdcbkleolciiaa", sum := "b24bc705ded199d7eaf7a919ca2cb879a66171673a3309a04d40be68dc637344", checked := Try.checked }
namespace Rows
def none {H : Type} : Left H := { results := [], args := [] }

/-- 'sojournlaw09.FrameTurned': WHATEVER THE INPUT: true; the input reads as it did. -/
def frameTurnedSpec : ChangeSpec := { name := "frameTurned", fn := fun _ => fun
  | [d1, d2, d3] => { results := [.lit (.bool true)], args := [d1, d2, d3] }
  | _ => none }
def frameTurnedRow : OpenClaim := { program := "ytpdcbkleolciiaa", sum := "b24bc705ded199d7eaf7a919ca2cb879a66171673a3309a04d40be68dc637344", func := "sojourn/sojournlaw09.FrameTurned", spec := "frameTurned", apart := false }
def FrameTurnedSaid : Prop := frameTurnedRow.holds Try.pinned (OpenSpec.ofChange frameTurnedSpec)

/-- ITS FALSE NEIGHBOUR: 'it returns false'. Refute it at one input. -/
def frameTurnedWrong : ChangeSpec := { name := "frameTurned", fn := fun _ => fun
  | [d1, d2, d3] => { results := [.lit (.bool false)], args := [d1, d2, d3] }
  | _ => none }
def FrameTurnedWrongFalsely : Prop := frameTurnedRow.holds Try.pinned (OpenSpec.ofChange frameTurnedWrong)

/-- 'sojournlaw09.FrameLost': WHATEVER THE INPUT: true; the input reads as it did. -/
def frameLostSpec : ChangeSpec := { name := "frameLost", fn := fun _ => fun
  | [d1, d2, d3] => { results := [.lit (.bool true)], args := [d1, d2, d3] }
  | _ => none }
def frameLostRow : OpenClaim := { program := "ytpdcbkleolciiaa", sum := "b24bc705ded199d7eaf7a919ca2cb879a66171673a3309a04d40be68dc637344", func := "sojourn/sojournlaw09.FrameLost", spec := "frameLost", apart := false }
def FrameLostSaid : Prop := frameLostRow.holds Try.pinned (OpenSpec.ofChange frameLostSpec)

/-- ITS FALSE NEIGHBOUR: 'it returns false'. Refute it at one input. -/
def frameLostWrong : ChangeSpec := { name := "frameLost", fn := fun _ => fun
  | [d1, d2, d3] => { results := [.lit (.bool false)], args := [d1, d2, d3] }
  | _ => none }
def FrameLostWrongFalsely : Prop := frameLostRow.holds Try.pinned (OpenSpec.ofChange frameLostWrong)

/-- 'sojournlaw09.FrameFinds': WHATEVER THE INPUT: true; the input reads as it did. -/
def frameFindsSpec : ChangeSpec := { name := "frameFinds", fn := fun _ => fun
  | [d1, d2, d3] => { results := [.lit (.bool true)], args := [d1, d2, d3] }
  | _ => none }
def frameFindsRow : OpenClaim := { program := "ytpdcbkleolciiaa", sum := "b24bc705ded199d7eaf7a919ca2cb879a66171673a3309a04d40be68dc637344", func := "sojourn/sojournlaw09.FrameFinds", spec := "frameFinds", inPlace := ["internal/bytealg.IndexByteString"], apart := false }
def FrameFindsSaid : Prop := frameFindsRow.holds Try.pinned (OpenSpec.ofChange frameFindsSpec)

/-- ITS FALSE NEIGHBOUR: 'it returns false'. Refute it at one input. -/
def frameFindsWrong : ChangeSpec := { name := "frameFinds", fn := fun _ => fun
  | [d1, d2, d3] => { results := [.lit (.bool false)], args := [d1, d2, d3] }
  | _ => none }
def FrameFindsWrongFalsely : Prop := frameFindsRow.holds Try.pinned (OpenSpec.ofChange frameFindsWrong)

/- THE SECOND FORM. 'bulk': how many values and letters a reading holds, each counted each time it is reached (what is shared counts as often as it is met; a slice's spare places count too). A statement '..UptoSaid' is the law's where the arguments, and the package variables that the reading takes, are together of bulk at most 1048576: NARROWER than '..Said'. Prove '..Said' where nothing that the law and all that it calls make is longer than what came in: it says more and counts as full. Else prove '..UptoSaid'. A law counts once. -/
mutual
def uptoBulk {H : Type} : DataW H → Nat
  | .lit (.string bytes) => bytes.length + 1
  | .lit _ => 1
  | .nil => 1
  | .ptr d => uptoBulk d + 1
  | .slice elems spare => uptoBulkAll elems + uptoBulkAll spare + 1
  | .agg parts => uptoBulkAll parts + 1
  | .iface _ d => uptoBulk d + 1
  | .map entries => uptoBulkEntries entries + 1
  | .held _ => 1
def uptoBulkAll {H : Type} : List (DataW H) → Nat
  | [] => 0
  | d :: r => uptoBulk d + uptoBulkAll r
def uptoBulkEntries {H : Type} : List (Lit × DataW H) → Nat
  | [] => 0
  | x :: r => uptoBulkEntry x + uptoBulkEntries r
def uptoBulkEntry {H : Type} : Lit × DataW H → Nat
  | (.string bytes, d) => bytes.length + uptoBulk d + 1
  | (_, d) => uptoBulk d + 1
 end
def uptoSmall : (H : Type) → List (DataW H) → Bool := fun _ ds => decide (uptoBulkAll ds ≤ 1048576)
def OpenSpec.upto (s : _root_.Go.ChangeSpec) : _root_.Go.OpenSpec := { _root_.Go.OpenSpec.ofChange s with cond := some uptoSmall }

/-- 'sojournlaw09.FrameTurned', WHERE WHAT IT READS IS OF BULK AT MOST 1048576: true; the input reads as it did. -/
def frameTurnedUptoRow : OpenClaim := { program := "ytpdcbkleolciiaa", sum := "b24bc705ded199d7eaf7a919ca2cb879a66171673a3309a04d40be68dc637344", func := "sojourn/sojournlaw09.FrameTurned", spec := "frameTurned", apart := false, narrowed := true }
def FrameTurnedUptoSaid : Prop := frameTurnedUptoRow.holds Try.pinned (OpenSpec.upto frameTurnedSpec)

/-- 'sojournlaw09.FrameLost', WHERE WHAT IT READS IS OF BULK AT MOST 1048576: true; the input reads as it did. -/
def frameLostUptoRow : OpenClaim := { program := "ytpdcbkleolciiaa", sum := "b24bc705ded199d7eaf7a919ca2cb879a66171673a3309a04d40be68dc637344", func := "sojourn/sojournlaw09.FrameLost", spec := "frameLost", apart := false, narrowed := true }
def FrameLostUptoSaid : Prop := frameLostUptoRow.holds Try.pinned (OpenSpec.upto frameLostSpec)

/-- 'sojournlaw09.FrameFinds', WHERE WHAT IT READS IS OF BULK AT MOST 1048576: true; the input reads as it did. -/
def frameFindsUptoRow : OpenClaim := { program := "ytpdcbkleolciiaa", sum := "b24bc705ded199d7eaf7a919ca2cb879a66171673a3309a04d40be68dc637344", func := "sojourn/sojournlaw09.FrameFinds", spec := "frameFinds", inPlace := ["internal/bytealg.IndexByteString"], apart := false, narrowed := true }
def FrameFindsUptoSaid : Prop := frameFindsUptoRow.holds Try.pinned (OpenSpec.upto frameFindsSpec)

end Rows
end Go.Proofs.Ytpdcbkleolciiaa
