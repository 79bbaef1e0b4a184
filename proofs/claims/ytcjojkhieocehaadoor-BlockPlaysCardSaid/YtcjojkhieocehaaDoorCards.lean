/-
  DERIVED. GIVEN WITH THE SEED: THE CARDS: each row of YtcjojkhieocehaaDoorRows.lean that lists a variable, with what it lists TIED to the program's text (the seventh form; the later family's looks); each row that meets fmt, with fmt's text TOLD by the authors' own Lean function (tested against real Go, not proved from fmt's source: count such statements apart). THE CARD IS WHAT COUNTS. Prove the row's statement (the work); the ties are given (YtcjojkhieocehaaDoorTie.lean); close each card by the builder's one call (the guide's Derived/Test/ToyasCard.lean, 'card_holds'). Laid BY PROGRAM, IN A SANDBOX (cutbox-door.mjs). By AI agents, Wed Nov 11 2026. No macro, syntax, notation, axiom, sorry.
-/
import Derived.Test.YtcjojkhieocehaaDoorRows
import GoSem.ClaimSeven
namespace Go.Proofs.YtcjojkhieocehaaDoor
namespace Rows

/-- THE TIED CARD OF 'sojournlaw08.BlockPlays'. -/
def blockPlaysCard : Claim7 := { stood := { row := blockPlaysRow, standIns := [], harness := (true, "64e5ae654f766aac03c1c2274daa302d1778a63b31ad9c699d45e6538002e298"), looks := true }, kinds := [], alts := [], laidByText := true, laidKinds := [.handle], laidTests := true, laidLooks := .later }
def BlockPlaysCardSaid : Prop := Claim7.holds Tryd.pinned (.plain (OpenSpec.ofChange blockPlaysSpec)) blockPlaysCard

/-- THE SECOND FORM's CARD OF 'sojournlaw08.BlockPlays'. -/
def blockPlaysUptoCard : Claim7 := { stood := { row := blockPlaysUptoRow, standIns := [], harness := (true, "64e5ae654f766aac03c1c2274daa302d1778a63b31ad9c699d45e6538002e298"), looks := true }, kinds := [], alts := [], laidByText := true, laidKinds := [.handle], laidTests := true, laidLooks := .later }
def BlockPlaysUptoCardSaid : Prop := Claim7.holds Tryd.pinned (.plain (OpenSpec.upto blockPlaysSpec)) blockPlaysUptoCard
end Rows
end Go.Proofs.YtcjojkhieocehaaDoor
