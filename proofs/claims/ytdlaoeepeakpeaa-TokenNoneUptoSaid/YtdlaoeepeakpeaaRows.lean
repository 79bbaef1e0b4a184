/-
  No cell of these rows narrows 'for every input' (looked for: loops, veiled, ifaces, maps, wideKeys, modest, calm, conditions, laid).
  DERIVED. THE GIVEN ROWS OF THIS SEAT. 6 by the template 'for every input the law returns true; each argument reads behind the call as it read before'; 0 by the template 'total and deterministic' (their statements: YtdlaoeepeakpeaaTotals.lean).
  GIVEN WITH THE SEED: the statements are not yours to turn. If you find one false, say at which input.
  Laid BY PROGRAM, IN A SANDBOX (cutbox-rows.mjs): the forced cells as the released guide's own fill.sh prints them over the translation 59fe0b1bd2352563… (all of the seat's roots in one cut). By AI agents, Wed Nov 11 2026. No macro, syntax, notation, axiom, sorry.
-/
import Derived.Test.YtdlaoeepeakpeaaChecked
import GoSem.Claim
import GoSem.ClaimJoined
import GoSem.ClaimMapViews
import Derived.JoinedTies
import Derived.KernelRfl
namespace Go.Proofs.Ytdlaoeepeakpeaa
/- THE CELL 'sum', in the pinned program and in every row, IS THE sha256 OF THE DUMP (.gsa) THAT YtdlaoeepeakpeaaProg.lean LOADS. Nothing in Lean hashes anything: it is a label: what it is worth is what the hold of that sum in a sandbox is worth. -/
noncomputable def Try.pinned : Pinned := { name := "ytdlaoeepeakpeaa", sum := "59fe0b1bd23525631bc4477b7a427bd04d5a6c1806cea923fb8ee61adfaa3b50", checked := Try.checked }
namespace Rows
def none {H : Type} : Left H := { results := [], args := [] }

/-- 'sojournlaw12.TokenOnly': WHATEVER THE INPUT: true; the input reads as it did. -/
def tokenOnlySpec : ChangeSpec := { name := "tokenOnly", fn := fun _ => fun
  | [d1, d2] => { results := [.lit (.bool true)], args := [d1, d2] }
  | _ => none }
def tokenOnlyRow : OpenClaim := { program := "ytdlaoeepeakpeaa", sum := "59fe0b1bd23525631bc4477b7a427bd04d5a6c1806cea923fb8ee61adfaa3b50", func := "sojourn/sojournlaw12.TokenOnly", spec := "tokenOnly", inPlace := ["internal/bytealg.IndexByteString", "internal/bytealg.IndexString"], named := ["internal/bytealg.MaxLen"], apart := false }
def TokenOnlySaid : Prop := tokenOnlyRow.holds Try.pinned (OpenSpec.ofChange tokenOnlySpec)

/-- ITS FALSE NEIGHBOUR: 'it returns false'. Refute it at one input. -/
def tokenOnlyWrong : ChangeSpec := { name := "tokenOnly", fn := fun _ => fun
  | [d1, d2] => { results := [.lit (.bool false)], args := [d1, d2] }
  | _ => none }
def TokenOnlyWrongFalsely : Prop := tokenOnlyRow.holds Try.pinned (OpenSpec.ofChange tokenOnlyWrong)

/-- 'sojournlaw12.TokenUnlike': WHATEVER THE INPUT: true; the input reads as it did. -/
def tokenUnlikeSpec : ChangeSpec := { name := "tokenUnlike", fn := fun _ => fun
  | [d1, d2, d3] => { results := [.lit (.bool true)], args := [d1, d2, d3] }
  | _ => none }
def tokenUnlikeRow : OpenClaim := { program := "ytdlaoeepeakpeaa", sum := "59fe0b1bd23525631bc4477b7a427bd04d5a6c1806cea923fb8ee61adfaa3b50", func := "sojourn/sojournlaw12.TokenUnlike", spec := "tokenUnlike", inPlace := ["internal/bytealg.IndexByteString", "internal/bytealg.IndexString"], named := ["internal/bytealg.MaxLen"], apart := false }
def TokenUnlikeSaid : Prop := tokenUnlikeRow.holds Try.pinned (OpenSpec.ofChange tokenUnlikeSpec)

/-- ITS FALSE NEIGHBOUR: 'it returns false'. Refute it at one input. -/
def tokenUnlikeWrong : ChangeSpec := { name := "tokenUnlike", fn := fun _ => fun
  | [d1, d2, d3] => { results := [.lit (.bool false)], args := [d1, d2, d3] }
  | _ => none }
def TokenUnlikeWrongFalsely : Prop := tokenUnlikeRow.holds Try.pinned (OpenSpec.ofChange tokenUnlikeWrong)

/-- 'sojournlaw12.TokenMints': WHATEVER THE INPUT: true; the input reads as it did. -/
def tokenMintsSpec : ChangeSpec := { name := "tokenMints", fn := fun _ => fun
  | [d1, d2] => { results := [.lit (.bool true)], args := [d1, d2] }
  | _ => none }
def tokenMintsRow : OpenClaim := { program := "ytdlaoeepeakpeaa", sum := "59fe0b1bd23525631bc4477b7a427bd04d5a6c1806cea923fb8ee61adfaa3b50", func := "sojourn/sojournlaw12.TokenMints", spec := "tokenMints", inPlace := ["internal/bytealg.IndexByteString", "internal/bytealg.IndexString", "internal/reflectlite.TypeOf"], unfollowed := true, recurses := true, named := ["internal/bytealg.MaxLen"], apart := false }
def TokenMintsSaid : Prop := tokenMintsRow.holds Try.pinned (OpenSpec.ofChange tokenMintsSpec)

/-- ITS FALSE NEIGHBOUR: 'it returns false'. Refute it at one input. -/
def tokenMintsWrong : ChangeSpec := { name := "tokenMints", fn := fun _ => fun
  | [d1, d2] => { results := [.lit (.bool false)], args := [d1, d2] }
  | _ => none }
def TokenMintsWrongFalsely : Prop := tokenMintsRow.holds Try.pinned (OpenSpec.ofChange tokenMintsWrong)

/-- 'sojournlaw12.TokenLives': WHATEVER THE INPUT: true; the input reads as it did. -/
def tokenLivesSpec : ChangeSpec := { name := "tokenLives", fn := fun _ => fun
  | [d1, d2, d3] => { results := [.lit (.bool true)], args := [d1, d2, d3] }
  | _ => none }
def tokenLivesRow : OpenClaim := { program := "ytdlaoeepeakpeaa", sum := "59fe0b1bd23525631bc4477b7a427bd04d5a6c1806cea923fb8ee61adfaa3b50", func := "sojourn/sojournlaw12.TokenLives", spec := "tokenLives", inPlace := ["internal/bytealg.IndexByteString", "internal/bytealg.IndexString", "internal/reflectlite.TypeOf"], unfollowed := true, recurses := true, named := ["internal/bytealg.MaxLen"], apart := false }
def TokenLivesSaid : Prop := tokenLivesRow.holds Try.pinned (OpenSpec.ofChange tokenLivesSpec)

/-- ITS FALSE NEIGHBOUR: 'it returns false'. Refute it at one input. -/
def tokenLivesWrong : ChangeSpec := { name := "tokenLives", fn := fun _ => fun
  | [d1, d2, d3] => { results := [.lit (.bool false)], args := [d1, d2, d3] }
  | _ => none }
def TokenLivesWrongFalsely : Prop := tokenLivesRow.holds Try.pinned (OpenSpec.ofChange tokenLivesWrong)

/-- 'sojournlaw12.TokenNone': WHATEVER THE INPUT: true; the input reads as it did. -/
def tokenNoneSpec : ChangeSpec := { name := "tokenNone", fn := fun _ => fun
  | [d] => { results := [.lit (.bool true)], args := [d] }
  | _ => none }
def tokenNoneRow : OpenClaim := { program := "ytdlaoeepeakpeaa", sum := "59fe0b1bd23525631bc4477b7a427bd04d5a6c1806cea923fb8ee61adfaa3b50", func := "sojourn/sojournlaw12.TokenNone", spec := "tokenNone", inPlace := ["internal/bytealg.IndexByteString", "internal/bytealg.IndexString", "internal/reflectlite.TypeOf"], unfollowed := true, recurses := true, named := ["internal/bytealg.MaxLen"], apart := false }
def TokenNoneSaid : Prop := tokenNoneRow.holds Try.pinned (OpenSpec.ofChange tokenNoneSpec)

/-- ITS FALSE NEIGHBOUR: 'it returns false'. Refute it at one input. -/
def tokenNoneWrong : ChangeSpec := { name := "tokenNone", fn := fun _ => fun
  | [d] => { results := [.lit (.bool false)], args := [d] }
  | _ => none }
def TokenNoneWrongFalsely : Prop := tokenNoneRow.holds Try.pinned (OpenSpec.ofChange tokenNoneWrong)

/-- 'sojournlaw12.TokenTurned': WHATEVER THE INPUT: true; the input reads as it did. -/
def tokenTurnedSpec : ChangeSpec := { name := "tokenTurned", fn := fun _ => fun
  | [d1, d2, d3] => { results := [.lit (.bool true)], args := [d1, d2, d3] }
  | _ => none }
def tokenTurnedRow : OpenClaim := { program := "ytdlaoeepeakpeaa", sum := "59fe0b1bd23525631bc4477b7a427bd04d5a6c1806cea923fb8ee61adfaa3b50", func := "sojourn/sojournlaw12.TokenTurned", spec := "tokenTurned", inPlace := ["internal/bytealg.IndexByteString", "internal/bytealg.IndexString", "internal/reflectlite.TypeOf", "internal/bytealg.CountString"], unfollowed := true, recurses := true, named := ["internal/bytealg.MaxLen"], apart := false }
def TokenTurnedSaid : Prop := tokenTurnedRow.holds Try.pinned (OpenSpec.ofChange tokenTurnedSpec)

/-- ITS FALSE NEIGHBOUR: 'it returns false'. Refute it at one input. -/
def tokenTurnedWrong : ChangeSpec := { name := "tokenTurned", fn := fun _ => fun
  | [d1, d2, d3] => { results := [.lit (.bool false)], args := [d1, d2, d3] }
  | _ => none }
def TokenTurnedWrongFalsely : Prop := tokenTurnedRow.holds Try.pinned (OpenSpec.ofChange tokenTurnedWrong)

/- THE SECOND FORM. 'bulk': how many values and letters a reading holds, each counted each time it is reached (what is shared counts as often as it is met; a slice's spare places count too). A statement '..UptoSaid' is the law's where the arguments, and the package variables that the reading takes, are together of bulk at most 1048576: NARROWER than '..Said'. Prove '..Said' where nothing that the law and all that it calls make is longer than what came in: it says more and counts as full. Else prove '..UptoSaid'. A law counts once. -/
mutual
def uptoBulk {H : Type} : DataW H → Nat
  | .lit (.string bytes) => bytes.length + 1
  | .lit _ => 1
  | .nil => 1
  | .ptr d => uptoBulk d + 1
  | .slice elems spare => uptoBulkAll elems + uptoBulkAll spare + 1
  | .agg parts => uptoBulkAll parts + 1
  | .iface _ d => uptoBulk d + 1
  | .map entries => uptoBulkEntries entries + 1
  | .held _ => 1
def uptoBulkAll {H : Type} : List (DataW H) → Nat
  | [] => 0
  | d :: r => uptoBulk d + uptoBulkAll r
def uptoBulkEntries {H : Type} : List (Lit × DataW H) → Nat
  | [] => 0
  | x :: r => uptoBulkEntry x + uptoBulkEntries r
def uptoBulkEntry {H : Type} : Lit × DataW H → Nat
  | (.string bytes, d) => bytes.length + uptoBulk d + 1
  | (_, d) => uptoBulk d + 1
 end
def uptoSmall : (H : Type) → List (DataW H) → Bool := fun _ ds => decide (uptoBulkAll ds ≤ 1048576)
def OpenSpec.upto (s : _root_.Go.ChangeSpec) : _root_.Go.OpenSpec := { _root_.Go.OpenSpec.ofChange s with cond := some uptoSmall }

/-- 'sojournlaw12.TokenOnly', WHERE WHAT IT READS IS OF BULK AT MOST 1048576: true; the input reads as it did. -/
def tokenOnlyUptoRow : OpenClaim := { program := "ytdlaoeepeakpeaa", sum := "59fe0b1bd23525631bc4477b7a427bd04d5a6c1806cea923fb8ee61adfaa3b50", func := "sojourn/sojournlaw12.TokenOnly", spec := "tokenOnly", inPlace := ["internal/bytealg.IndexByteString", "internal/bytealg.IndexString"], named := ["internal/bytealg.MaxLen"], apart := false, narrowed := true }
def TokenOnlyUptoSaid : Prop := tokenOnlyUptoRow.holds Try.pinned (OpenSpec.upto tokenOnlySpec)

/-- 'sojournlaw12.TokenUnlike', WHERE WHAT IT READS IS OF BULK AT MOST 1048576: true; the input reads as it did. -/
def tokenUnlikeUptoRow : OpenClaim := { program := "ytdlaoeepeakpeaa", sum := "59fe0b1bd23525631bc4477b7a427bd04d5a6c1806cea923fb8ee61adfaa3b50", func := "sojourn/sojournlaw12.TokenUnlike", spec := "tokenUnlike", inPlace := ["internal/bytealg.IndexByteString", "internal/bytealg.IndexString"], named := ["internal/bytealg.MaxLen"], apart := false, narrowed := true }
def TokenUnlikeUptoSaid : Prop := tokenUnlikeUptoRow.holds Try.pinned (OpenSpec.upto tokenUnlikeSpec)

/-- 'sojournlaw12.TokenMints', WHERE WHAT IT READS IS OF BULK AT MOST 1048576: true; the input reads as it did. -/
def tokenMintsUptoRow : OpenClaim := { program := "ytdlaoeepeakpeaa", sum := "59fe0b1bd23525631bc4477b7a427bd04d5a6c1806cea923fb8ee61adfaa3b50", func := "sojourn/sojournlaw12.TokenMints", spec := "tokenMints", inPlace := ["internal/bytealg.IndexByteString", "internal/bytealg.IndexString", "internal/reflectlite.TypeOf"], unfollowed := true, recurses := true, named := ["internal/bytealg.MaxLen"], apart := false, narrowed := true }
def TokenMintsUptoSaid : Prop := tokenMintsUptoRow.holds Try.pinned (OpenSpec.upto tokenMintsSpec)

/-- 'sojournlaw12.TokenLives', WHERE WHAT IT READS IS OF BULK AT MOST 1048576: true; the input reads as it did. -/
def tokenLivesUptoRow : OpenClaim := { program := "ytdlaoeepeakpeaa", sum := "59fe0b1bd23525631bc4477b7a427bd04d5a6c1806cea923fb8ee61adfaa3b50", func := "sojourn/sojournlaw12.TokenLives", spec := "tokenLives", inPlace := ["internal/bytealg.IndexByteString", "internal/bytealg.IndexString", "internal/reflectlite.TypeOf"], unfollowed := true, recurses := true, named := ["internal/bytealg.MaxLen"], apart := false, narrowed := true }
def TokenLivesUptoSaid : Prop := tokenLivesUptoRow.holds Try.pinned (OpenSpec.upto tokenLivesSpec)

/-- 'sojournlaw12.TokenNone', WHERE WHAT IT READS IS OF BULK AT MOST 1048576: true; the input reads as it did. -/
def tokenNoneUptoRow : OpenClaim := { program := "ytdlaoeepeakpeaa", sum := "59fe0b1bd23525631bc4477b7a427bd04d5a6c1806cea923fb8ee61adfaa3b50", func := "sojourn/sojournlaw12.TokenNone", spec := "tokenNone", inPlace := ["internal/bytealg.IndexByteString", "internal/bytealg.IndexString", "internal/reflectlite.TypeOf"], unfollowed := true, recurses := true, named := ["internal/bytealg.MaxLen"], apart := false, narrowed := true }
def TokenNoneUptoSaid : Prop := tokenNoneUptoRow.holds Try.pinned (OpenSpec.upto tokenNoneSpec)

/-- 'sojournlaw12.TokenTurned', WHERE WHAT IT READS IS OF BULK AT MOST 1048576: true; the input reads as it did. -/
def tokenTurnedUptoRow : OpenClaim := { program := "ytdlaoeepeakpeaa", sum := "59fe0b1bd23525631bc4477b7a427bd04d5a6c1806cea923fb8ee61adfaa3b50", func := "sojourn/sojournlaw12.TokenTurned", spec := "tokenTurned", inPlace := ["internal/bytealg.IndexByteString", "internal/bytealg.IndexString", "internal/reflectlite.TypeOf", "internal/bytealg.CountString"], unfollowed := true, recurses := true, named := ["internal/bytealg.MaxLen"], apart := false, narrowed := true }
def TokenTurnedUptoSaid : Prop := tokenTurnedUptoRow.holds Try.pinned (OpenSpec.upto tokenTurnedSpec)

end Rows
end Go.Proofs.Ytdlaoeepeakpeaa
