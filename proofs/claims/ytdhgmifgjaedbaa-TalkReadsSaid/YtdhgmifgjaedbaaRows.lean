/-
  No cell of these rows narrows 'for every input' (looked for: loops, veiled, ifaces, maps, wideKeys, modest, calm, conditions, laid).
  DERIVED. THE GIVEN ROWS OF THIS SEAT. 4 by the template 'for every input the law returns true; each argument reads behind the call as it read before'; 0 by the template 'total and deterministic' (their statements: YtdhgmifgjaedbaaTotals.lean).
  GIVEN WITH THE SEED: the statements are not yours to turn. If you find one false, say at which input.
  Laid BY PROGRAM, IN A SANDBOX (cutbox-rows.mjs): the forced cells as the released guide's own fill.sh prints them over the translation 94c3a4415ca9fe17… (all of the seat's roots in one cut). By AI agents, Wed Nov 11 2026. No macro, syntax, notation, axiom, sorry.
-/
import Derived.Test.YtdhgmifgjaedbaaChecked
import GoSem.Claim
import GoSem.ClaimJoined
import GoSem.ClaimMapViews
import Derived.JoinedTies
import Derived.KernelRfl
namespace Go.Proofs.Ytdhgmifgjaedbaa
/- THE CELL 'sum', in the pinned program and in every row, IS THE sha256 OF THE DUMP (.gsa) THAT YtdhgmifgjaedbaaProg.lean LOADS. Nothing in Lean hashes anything: it is a label: what it is worth is what the hold of that sum in a sandbox is worth. -/
noncomputable def Try.pinned : Pinned := { name := "ytdhgmifgjaedbaa", sum := "94c3a4415ca9fe179c2945a42ddfefe71fe101db21b7c192a901d4705c0550a4", checked := Try.checked }
namespace Rows
def none {H : Type} : Left H := { results := [], args := [] }

/-- 'sojournlaw23.TalkUnlike': WHATEVER THE INPUT: true; the input reads as it did. -/
def talkUnlikeSpec : ChangeSpec := { name := "talkUnlike", fn := fun _ => fun
  | [d1, d2] => { results := [.lit (.bool true)], args := [d1, d2] }
  | _ => none }
def talkUnlikeRow : OpenClaim := { program := "ytdhgmifgjaedbaa", sum := "94c3a4415ca9fe179c2945a42ddfefe71fe101db21b7c192a901d4705c0550a4", func := "sojourn/sojournlaw23.TalkUnlike", spec := "talkUnlike", apart := false }
def TalkUnlikeSaid : Prop := talkUnlikeRow.holds Try.pinned (OpenSpec.ofChange talkUnlikeSpec)

/-- ITS FALSE NEIGHBOUR: 'it returns false'. Refute it at one input. -/
def talkUnlikeWrong : ChangeSpec := { name := "talkUnlike", fn := fun _ => fun
  | [d1, d2] => { results := [.lit (.bool false)], args := [d1, d2] }
  | _ => none }
def TalkUnlikeWrongFalsely : Prop := talkUnlikeRow.holds Try.pinned (OpenSpec.ofChange talkUnlikeWrong)

/-- 'sojournlaw23.TalkBytes': WHATEVER THE INPUT: true; the input reads as it did. -/
def talkBytesSpec : ChangeSpec := { name := "talkBytes", fn := fun _ => fun
  | [d] => { results := [.lit (.bool true)], args := [d] }
  | _ => none }
def talkBytesRow : OpenClaim := { program := "ytdhgmifgjaedbaa", sum := "94c3a4415ca9fe179c2945a42ddfefe71fe101db21b7c192a901d4705c0550a4", func := "sojourn/sojournlaw23.TalkBytes", spec := "talkBytes", inPlace := ["internal/reflectlite.TypeOf"], unfollowed := true, recurses := true, apart := false }
def TalkBytesSaid : Prop := talkBytesRow.holds Try.pinned (OpenSpec.ofChange talkBytesSpec)

/-- ITS FALSE NEIGHBOUR: 'it returns false'. Refute it at one input. -/
def talkBytesWrong : ChangeSpec := { name := "talkBytes", fn := fun _ => fun
  | [d] => { results := [.lit (.bool false)], args := [d] }
  | _ => none }
def TalkBytesWrongFalsely : Prop := talkBytesRow.holds Try.pinned (OpenSpec.ofChange talkBytesWrong)

/-- 'sojournlaw23.TalkReads': WHATEVER THE INPUT: true; the input reads as it did. -/
def talkReadsSpec : ChangeSpec := { name := "talkReads", fn := fun _ => fun
  | [d] => { results := [.lit (.bool true)], args := [d] }
  | _ => none }
def talkReadsRow : OpenClaim := { program := "ytdhgmifgjaedbaa", sum := "94c3a4415ca9fe179c2945a42ddfefe71fe101db21b7c192a901d4705c0550a4", func := "sojourn/sojournlaw23.TalkReads", spec := "talkReads", inPlace := ["internal/reflectlite.TypeOf"], unfollowed := true, recurses := true, apart := false }
def TalkReadsSaid : Prop := talkReadsRow.holds Try.pinned (OpenSpec.ofChange talkReadsSpec)

/-- ITS FALSE NEIGHBOUR: 'it returns false'. Refute it at one input. -/
def talkReadsWrong : ChangeSpec := { name := "talkReads", fn := fun _ => fun
  | [d] => { results := [.lit (.bool false)], args := [d] }
  | _ => none }
def TalkReadsWrongFalsely : Prop := talkReadsRow.holds Try.pinned (OpenSpec.ofChange talkReadsWrong)

/-- 'sojournlaw23.TalkCuts': WHATEVER THE INPUT: true; the input reads as it did. -/
def talkCutsSpec : ChangeSpec := { name := "talkCuts", fn := fun _ => fun
  | [d1, d2, d3] => { results := [.lit (.bool true)], args := [d1, d2, d3] }
  | _ => none }
def talkCutsRow : OpenClaim := { program := "ytdhgmifgjaedbaa", sum := "94c3a4415ca9fe179c2945a42ddfefe71fe101db21b7c192a901d4705c0550a4", func := "sojourn/sojournlaw23.TalkCuts", spec := "talkCuts", inPlace := ["internal/reflectlite.TypeOf"], unfollowed := true, recurses := true, apart := false }
def TalkCutsSaid : Prop := talkCutsRow.holds Try.pinned (OpenSpec.ofChange talkCutsSpec)

/-- ITS FALSE NEIGHBOUR: 'it returns false'. Refute it at one input. -/
def talkCutsWrong : ChangeSpec := { name := "talkCuts", fn := fun _ => fun
  | [d1, d2, d3] => { results := [.lit (.bool false)], args := [d1, d2, d3] }
  | _ => none }
def TalkCutsWrongFalsely : Prop := talkCutsRow.holds Try.pinned (OpenSpec.ofChange talkCutsWrong)

/- THE SECOND FORM. 'bulk': how many values and letters a reading holds, each counted each time it is reached (what is shared counts as often as it is met; a slice's spare places count too). A statement '..UptoSaid' is the law's where the arguments, and the package variables that the reading takes, are together of bulk at most 1048576: NARROWER than '..Said'. Prove '..Said' where nothing that the law and all that it calls make is longer than what came in: it says more and counts as full. Else prove '..UptoSaid'. A law counts once. -/
mutual
def uptoBulk {H : Type} : DataW H → Nat
  | .lit (.string bytes) => bytes.length + 1
  | .lit _ => 1
  | .nil => 1
  | .ptr d => uptoBulk d + 1
  | .slice elems spare => uptoBulkAll elems + uptoBulkAll spare + 1
  | .agg parts => uptoBulkAll parts + 1
  | .iface _ d => uptoBulk d + 1
  | .map entries => uptoBulkEntries entries + 1
  | .held _ => 1
def uptoBulkAll {H : Type} : List (DataW H) → Nat
  | [] => 0
  | d :: r => uptoBulk d + uptoBulkAll r
def uptoBulkEntries {H : Type} : List (Lit × DataW H) → Nat
  | [] => 0
  | x :: r => uptoBulkEntry x + uptoBulkEntries r
def uptoBulkEntry {H : Type} : Lit × DataW H → Nat
  | (.string bytes, d) => bytes.length + uptoBulk d + 1
  | (_, d) => uptoBulk d + 1
 end
def uptoSmall : (H : Type) → List (DataW H) → Bool := fun _ ds => decide (uptoBulkAll ds ≤ 1048576)
def OpenSpec.upto (s : _root_.Go.ChangeSpec) : _root_.Go.OpenSpec := { _root_.Go.OpenSpec.ofChange s with cond := some uptoSmall }

/-- 'sojournlaw23.TalkUnlike', WHERE WHAT IT READS IS OF BULK AT MOST 1048576: true; the input reads as it did. -/
def talkUnlikeUptoRow : OpenClaim := { program := "ytdhgmifgjaedbaa", sum := "94c3a4415ca9fe179c2945a42ddfefe71fe101db21b7c192a901d4705c0550a4", func := "sojourn/sojournlaw23.TalkUnlike", spec := "talkUnlike", apart := false, narrowed := true }
def TalkUnlikeUptoSaid : Prop := talkUnlikeUptoRow.holds Try.pinned (OpenSpec.upto talkUnlikeSpec)

/-- 'sojournlaw23.TalkBytes', WHERE WHAT IT READS IS OF BULK AT MOST 1048576: true; the input reads as it did. -/
def talkBytesUptoRow : OpenClaim := { program := "ytdhgmifgjaedbaa", sum := "94c3a4415ca9fe179c2945a42ddfefe71fe101db21b7c192a901d4705c0550a4", func := "sojourn/sojournlaw23.TalkBytes", spec := "talkBytes", inPlace := ["internal/reflectlite.TypeOf"], unfollowed := true, recurses := true, apart := false, narrowed := true }
def TalkBytesUptoSaid : Prop := talkBytesUptoRow.holds Try.pinned (OpenSpec.upto talkBytesSpec)

/-- 'sojournlaw23.TalkReads', WHERE WHAT IT READS IS OF BULK AT MOST 1048576: true; the input reads as it did. -/
def talkReadsUptoRow : OpenClaim := { program := "ytdhgmifgjaedbaa", sum := "94c3a4415ca9fe179c2945a42ddfefe71fe101db21b7c192a901d4705c0550a4", func := "sojourn/sojournlaw23.TalkReads", spec := "talkReads", inPlace := ["internal/reflectlite.TypeOf"], unfollowed := true, recurses := true, apart := false, narrowed := true }
def TalkReadsUptoSaid : Prop := talkReadsUptoRow.holds Try.pinned (OpenSpec.upto talkReadsSpec)

/-- 'sojournlaw23.TalkCuts', WHERE WHAT IT READS IS OF BULK AT MOST 1048576: true; the input reads as it did. -/
def talkCutsUptoRow : OpenClaim := { program := "ytdhgmifgjaedbaa", sum := "94c3a4415ca9fe179c2945a42ddfefe71fe101db21b7c192a901d4705c0550a4", func := "sojourn/sojournlaw23.TalkCuts", spec := "talkCuts", inPlace := ["internal/reflectlite.TypeOf"], unfollowed := true, recurses := true, apart := false, narrowed := true }
def TalkCutsUptoSaid : Prop := talkCutsUptoRow.holds Try.pinned (OpenSpec.upto talkCutsSpec)

end Rows
end Go.Proofs.Ytdhgmifgjaedbaa
