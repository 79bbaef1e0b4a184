/-
  No cell of these rows narrows 'for every input' (looked for: loops, veiled, ifaces, maps, wideKeys, modest, calm, conditions, laid).
  DERIVED. THE GIVEN ROWS OF THIS SEAT. 6 by the template 'for every input the law returns true; each argument reads behind the call as it read before'; 0 by the template 'total and deterministic' (their statements: YtjpfablpkekdgaaTotals.lean).
  GIVEN WITH THE SEED: the statements are not yours to turn. If you find one false, say at which input.
  Laid BY PROGRAM, IN A SANDBOX (cutbox-rows.mjs): the forced cells as the released guide's own fill.sh prints them over the translation 80fc5fda3bc7037e… (all of the seat's roots in one cut). By AI agents, Wed Nov 11 2026. No macro, syntax, notation, axiom, sorry.
-/
import Derived.Test.YtjpfablpkekdgaaChecked
import GoSem.Claim
import GoSem.ClaimJoined
import GoSem.ClaimMapViews
import Derived.JoinedTies
import Derived.KernelRfl
namespace Go.Proofs.Ytjpfablpkekdgaa
/- THE CELL 'sum', in the pinned program and in every row, IS THE sha256 OF THE DUMP (.gsa) THAT YtjpfablpkekdgaaProg.lean LOADS. Nothing in Lean hashes anything: it is a label: what it is worth is what the hold of that sum in a sandbox is worth. -/
noncomputable def Try.pinned : Pinned := { name := "ytjpfablpkekdgaa", sum := "80fc5fda3bc7037ef781cd5263ec28e4f403d69a5ce821992f015650fd49cedc", checked := Try.checked }
namespace Rows
def none {H : Type} : Left H := { results := [], args := [] }

/-- 'sojournlaw05.WireUnlike': WHATEVER THE INPUT: true; the input reads as it did. -/
def wireUnlikeSpec : ChangeSpec := { name := "wireUnlike", fn := fun _ => fun
  | [d1, d2] => { results := [.lit (.bool true)], args := [d1, d2] }
  | _ => none }
def wireUnlikeRow : OpenClaim := { program := "ytjpfablpkekdgaa", sum := "80fc5fda3bc7037ef781cd5263ec28e4f403d69a5ce821992f015650fd49cedc", func := "sojourn/sojournlaw05.WireUnlike", spec := "wireUnlike", apart := false }
def WireUnlikeSaid : Prop := wireUnlikeRow.holds Try.pinned (OpenSpec.ofChange wireUnlikeSpec)

/-- ITS FALSE NEIGHBOUR: 'it returns false'. Refute it at one input. -/
def wireUnlikeWrong : ChangeSpec := { name := "wireUnlike", fn := fun _ => fun
  | [d1, d2] => { results := [.lit (.bool false)], args := [d1, d2] }
  | _ => none }
def WireUnlikeWrongFalsely : Prop := wireUnlikeRow.holds Try.pinned (OpenSpec.ofChange wireUnlikeWrong)

/-- 'sojournlaw05.WireBack': WHATEVER THE INPUT: true; the input reads as it did. -/
def wireBackSpec : ChangeSpec := { name := "wireBack", fn := fun _ => fun
  | [d] => { results := [.lit (.bool true)], args := [d] }
  | _ => none }
def wireBackRow : OpenClaim := { program := "ytjpfablpkekdgaa", sum := "80fc5fda3bc7037ef781cd5263ec28e4f403d69a5ce821992f015650fd49cedc", func := "sojourn/sojournlaw05.WireBack", spec := "wireBack", apart := false }
def WireBackSaid : Prop := wireBackRow.holds Try.pinned (OpenSpec.ofChange wireBackSpec)

/-- ITS FALSE NEIGHBOUR: 'it returns false'. Refute it at one input. -/
def wireBackWrong : ChangeSpec := { name := "wireBack", fn := fun _ => fun
  | [d] => { results := [.lit (.bool false)], args := [d] }
  | _ => none }
def WireBackWrongFalsely : Prop := wireBackRow.holds Try.pinned (OpenSpec.ofChange wireBackWrong)

/-- 'sojournlaw05.WireClaims': WHATEVER THE INPUT: true; the input reads as it did. -/
def wireClaimsSpec : ChangeSpec := { name := "wireClaims", fn := fun _ => fun
  | [d1, d2, d3] => { results := [.lit (.bool true)], args := [d1, d2, d3] }
  | _ => none }
def wireClaimsRow : OpenClaim := { program := "ytjpfablpkekdgaa", sum := "80fc5fda3bc7037ef781cd5263ec28e4f403d69a5ce821992f015650fd49cedc", func := "sojourn/sojournlaw05.WireClaims", spec := "wireClaims", inPlace := ["internal/reflectlite.TypeOf"], unfollowed := true, recurses := true, apart := false }
def WireClaimsSaid : Prop := wireClaimsRow.holds Try.pinned (OpenSpec.ofChange wireClaimsSpec)

/-- ITS FALSE NEIGHBOUR: 'it returns false'. Refute it at one input. -/
def wireClaimsWrong : ChangeSpec := { name := "wireClaims", fn := fun _ => fun
  | [d1, d2, d3] => { results := [.lit (.bool false)], args := [d1, d2, d3] }
  | _ => none }
def WireClaimsWrongFalsely : Prop := wireClaimsRow.holds Try.pinned (OpenSpec.ofChange wireClaimsWrong)

/-- 'sojournlaw05.WireReadsClaims': WHATEVER THE INPUT: true; the input reads as it did. -/
def wireReadsClaimsSpec : ChangeSpec := { name := "wireReadsClaims", fn := fun _ => fun
  | [d] => { results := [.lit (.bool true)], args := [d] }
  | _ => none }
def wireReadsClaimsRow : OpenClaim := { program := "ytjpfablpkekdgaa", sum := "80fc5fda3bc7037ef781cd5263ec28e4f403d69a5ce821992f015650fd49cedc", func := "sojourn/sojournlaw05.WireReadsClaims", spec := "wireReadsClaims", inPlace := ["internal/reflectlite.TypeOf"], unfollowed := true, recurses := true, apart := false }
def WireReadsClaimsSaid : Prop := wireReadsClaimsRow.holds Try.pinned (OpenSpec.ofChange wireReadsClaimsSpec)

/-- ITS FALSE NEIGHBOUR: 'it returns false'. Refute it at one input. -/
def wireReadsClaimsWrong : ChangeSpec := { name := "wireReadsClaims", fn := fun _ => fun
  | [d] => { results := [.lit (.bool false)], args := [d] }
  | _ => none }
def WireReadsClaimsWrongFalsely : Prop := wireReadsClaimsRow.holds Try.pinned (OpenSpec.ofChange wireReadsClaimsWrong)

/-- 'sojournlaw05.WireWrites': WHATEVER THE INPUT: true; the input reads as it did. -/
def wireWritesSpec : ChangeSpec := { name := "wireWrites", fn := fun _ => fun
  | [d] => { results := [.lit (.bool true)], args := [d] }
  | _ => none }
def wireWritesRow : OpenClaim := { program := "ytjpfablpkekdgaa", sum := "80fc5fda3bc7037ef781cd5263ec28e4f403d69a5ce821992f015650fd49cedc", func := "sojourn/sojournlaw05.WireWrites", spec := "wireWrites", inPlace := ["internal/reflectlite.TypeOf"], unfollowed := true, recurses := true, apart := false }
def WireWritesSaid : Prop := wireWritesRow.holds Try.pinned (OpenSpec.ofChange wireWritesSpec)

/-- ITS FALSE NEIGHBOUR: 'it returns false'. Refute it at one input. -/
def wireWritesWrong : ChangeSpec := { name := "wireWrites", fn := fun _ => fun
  | [d] => { results := [.lit (.bool false)], args := [d] }
  | _ => none }
def WireWritesWrongFalsely : Prop := wireWritesRow.holds Try.pinned (OpenSpec.ofChange wireWritesWrong)

/-- 'sojournlaw05.WireReadsWrites': WHATEVER THE INPUT: true; the input reads as it did. -/
def wireReadsWritesSpec : ChangeSpec := { name := "wireReadsWrites", fn := fun _ => fun
  | [d] => { results := [.lit (.bool true)], args := [d] }
  | _ => none }
def wireReadsWritesRow : OpenClaim := { program := "ytjpfablpkekdgaa", sum := "80fc5fda3bc7037ef781cd5263ec28e4f403d69a5ce821992f015650fd49cedc", func := "sojourn/sojournlaw05.WireReadsWrites", spec := "wireReadsWrites", inPlace := ["internal/reflectlite.TypeOf"], unfollowed := true, recurses := true, apart := false }
def WireReadsWritesSaid : Prop := wireReadsWritesRow.holds Try.pinned (OpenSpec.ofChange wireReadsWritesSpec)

/-- ITS FALSE NEIGHBOUR: 'it returns false'. Refute it at one input. -/
def wireReadsWritesWrong : ChangeSpec := { name := "wireReadsWrites", fn := fun _ => fun
  | [d] => { results := [.lit (.bool false)], args := [d] }
  | _ => none }
def WireReadsWritesWrongFalsely : Prop := wireReadsWritesRow.holds Try.pinned (OpenSpec.ofChange wireReadsWritesWrong)

/- THE SECOND FORM. 'bulk': how many values and letters a reading holds, each counted each time it is reached (what is shared counts as often as it is met; a slice's spare places count too). A statement '..UptoSaid' is the law's where the arguments, and the package variables that the reading takes, are together of bulk at most 1048576: NARROWER than '..Said'. Prove '..Said' where nothing that the law and all that it calls make is longer than what came in: it says more and counts as full. Else prove '..UptoSaid'. A law counts once. -/
mutual
def uptoBulk {H : Type} : DataW H → Nat
  | .lit (.string bytes) => bytes.length + 1
  | .lit _ => 1
  | .nil => 1
  | .ptr d => uptoBulk d + 1
  | .slice elems spare => uptoBulkAll elems + uptoBulkAll spare + 1
  | .agg parts => uptoBulkAll parts + 1
  | .iface _ d => uptoBulk d + 1
  | .map entries => uptoBulkEntries entries + 1
  | .held _ => 1
def uptoBulkAll {H : Type} : List (DataW H) → Nat
  | [] => 0
  | d :: r => uptoBulk d + uptoBulkAll r
def uptoBulkEntries {H : Type} : List (Lit × DataW H) → Nat
  | [] => 0
  | x :: r => uptoBulkEntry x + uptoBulkEntries r
def uptoBulkEntry {H : Type} : Lit × DataW H → Nat
  | (.string bytes, d) => bytes.length + uptoBulk d + 1
  | (_, d) => uptoBulk d + 1
 end
def uptoSmall : (H : Type) → List (DataW H) → Bool := fun _ ds => decide (uptoBulkAll ds ≤ 1048576)
def OpenSpec.upto (s : _root_.Go.ChangeSpec) : _root_.Go.OpenSpec := { _root_.Go.OpenSpec.ofChange s with cond := some uptoSmall }

/-- 'sojournlaw05.WireUnlike', WHERE WHAT IT READS IS OF BULK AT MOST 1048576: true; the input reads as it did. -/
def wireUnlikeUptoRow : OpenClaim := { program := "ytjpfablpkekdgaa", sum := "80fc5fda3bc7037ef781cd5263ec28e4f403d69a5ce821992f015650fd49cedc", func := "sojourn/sojournlaw05.WireUnlike", spec := "wireUnlike", apart := false, narrowed := true }
def WireUnlikeUptoSaid : Prop := wireUnlikeUptoRow.holds Try.pinned (OpenSpec.upto wireUnlikeSpec)

/-- 'sojournlaw05.WireBack', WHERE WHAT IT READS IS OF BULK AT MOST 1048576: true; the input reads as it did. -/
def wireBackUptoRow : OpenClaim := { program := "ytjpfablpkekdgaa", sum := "80fc5fda3bc7037ef781cd5263ec28e4f403d69a5ce821992f015650fd49cedc", func := "sojourn/sojournlaw05.WireBack", spec := "wireBack", apart := false, narrowed := true }
def WireBackUptoSaid : Prop := wireBackUptoRow.holds Try.pinned (OpenSpec.upto wireBackSpec)

/-- 'sojournlaw05.WireClaims', WHERE WHAT IT READS IS OF BULK AT MOST 1048576: true; the input reads as it did. -/
def wireClaimsUptoRow : OpenClaim := { program := "ytjpfablpkekdgaa", sum := "80fc5fda3bc7037ef781cd5263ec28e4f403d69a5ce821992f015650fd49cedc", func := "sojourn/sojournlaw05.WireClaims", spec := "wireClaims", inPlace := ["internal/reflectlite.TypeOf"], unfollowed := true, recurses := true, apart := false, narrowed := true }
def WireClaimsUptoSaid : Prop := wireClaimsUptoRow.holds Try.pinned (OpenSpec.upto wireClaimsSpec)

/-- 'sojournlaw05.WireReadsClaims', WHERE WHAT IT READS IS OF BULK AT MOST 1048576: true; the input reads as it did. -/
def wireReadsClaimsUptoRow : OpenClaim := { program := "ytjpfablpkekdgaa", sum := "80fc5fda3bc7037ef781cd5263ec28e4f403d69a5ce821992f015650fd49cedc", func := "sojourn/sojournlaw05.WireReadsClaims", spec := "wireReadsClaims", inPlace := ["internal/reflectlite.TypeOf"], unfollowed := true, recurses := true, apart := false, narrowed := true }
def WireReadsClaimsUptoSaid : Prop := wireReadsClaimsUptoRow.holds Try.pinned (OpenSpec.upto wireReadsClaimsSpec)

/-- 'sojournlaw05.WireWrites', WHERE WHAT IT READS IS OF BULK AT MOST 1048576: true; the input reads as it did. -/
def wireWritesUptoRow : OpenClaim := { program := "ytjpfablpkekdgaa", sum := "80fc5fda3bc7037ef781cd5263ec28e4f403d69a5ce821992f015650fd49cedc", func := "sojourn/sojournlaw05.WireWrites", spec := "wireWrites", inPlace := ["internal/reflectlite.TypeOf"], unfollowed := true, recurses := true, apart := false, narrowed := true }
def WireWritesUptoSaid : Prop := wireWritesUptoRow.holds Try.pinned (OpenSpec.upto wireWritesSpec)

/-- 'sojournlaw05.WireReadsWrites', WHERE WHAT IT READS IS OF BULK AT MOST 1048576: true; the input reads as it did. -/
def wireReadsWritesUptoRow : OpenClaim := { program := "ytjpfablpkekdgaa", sum := "80fc5fda3bc7037ef781cd5263ec28e4f403d69a5ce821992f015650fd49cedc", func := "sojourn/sojournlaw05.WireReadsWrites", spec := "wireReadsWrites", inPlace := ["internal/reflectlite.TypeOf"], unfollowed := true, recurses := true, apart := false, narrowed := true }
def WireReadsWritesUptoSaid : Prop := wireReadsWritesUptoRow.holds Try.pinned (OpenSpec.upto wireReadsWritesSpec)

end Rows
end Go.Proofs.Ytjpfablpkekdgaa
