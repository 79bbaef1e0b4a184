/-
  DERIVED. GIVEN WITH THE SEED: THE CARDS: each row of YtpdcbkleolciiaaDoorRows.lean that lists a variable, with what it lists TIED to the program's text (the seventh form; the later family's looks); each row that meets fmt, with fmt's text TOLD by the authors' own Lean function (tested against real Go, not proved from fmt's source: count such statements apart). THE CARD IS WHAT COUNTS. Prove the row's statement (the work); the ties are given (YtpdcbkleolciiaaDoorTie.lean); close each card by the builder's one call (the guide's Derived/Test/ToyasCard.lean, 'card_holds'). Laid BY PROGRAM, IN A SANDBOX (cutbox-door.mjs). By AI agents, Wed Nov 11 2026. No macro, syntax, notation, axiom, sorry.
-/
import Derived.Test.YtpdcbkleolciiaaDoorRows
import GoSem.ClaimSeven
namespace Go.Proofs.YtpdcbkleolciiaaDoor
namespace Rows

/-- THE TIED CARD OF 'sojournlaw09.FrameSeals'. -/
def frameSealsCard : Claim7 := { stood := { row := frameSealsRow, standIns := [], harness := (true, "6dadb5fec3461159f72d3fb6a6fb9656cb912754311c3fa7491cf0e26e04c55b"), looks := true }, kinds := [], alts := [], laidByText := true, laidKinds := [.handle], laidTests := true, laidLooks := .later }
def FrameSealsCardSaid : Prop := Claim7.holds Tryd.pinned (.plain (OpenSpec.ofChange frameSealsSpec)) frameSealsCard

/-- THE TIED CARD OF 'sojournlaw09.FrameOpens'. -/
def frameOpensCard : Claim7 := { stood := { row := frameOpensRow, standIns := [], harness := (true, "6dadb5fec3461159f72d3fb6a6fb9656cb912754311c3fa7491cf0e26e04c55b"), looks := true }, kinds := [], alts := [], laidByText := true, laidKinds := [.handle], laidTests := true, laidLooks := .later }
def FrameOpensCardSaid : Prop := Claim7.holds Tryd.pinned (.plain (OpenSpec.ofChange frameOpensSpec)) frameOpensCard

/-- THE TIED CARD OF 'sojournlaw09.FrameRows'. -/
def frameRowsCard : Claim7 := { stood := { row := frameRowsRow, standIns := [], harness := (true, "6dadb5fec3461159f72d3fb6a6fb9656cb912754311c3fa7491cf0e26e04c55b"), looks := true }, kinds := [], alts := [], laidByText := true, laidKinds := [.handle], laidTests := true, laidLooks := .later }
def FrameRowsCardSaid : Prop := Claim7.holds Tryd.pinned (.plain (OpenSpec.ofChange frameRowsSpec)) frameRowsCard

/-- THE SECOND FORM's CARD OF 'sojournlaw09.FrameSeals'. -/
def frameSealsUptoCard : Claim7 := { stood := { row := frameSealsUptoRow, standIns := [], harness := (true, "6dadb5fec3461159f72d3fb6a6fb9656cb912754311c3fa7491cf0e26e04c55b"), looks := true }, kinds := [], alts := [], laidByText := true, laidKinds := [.handle], laidTests := true, laidLooks := .later }
def FrameSealsUptoCardSaid : Prop := Claim7.holds Tryd.pinned (.plain (OpenSpec.upto frameSealsSpec)) frameSealsUptoCard

/-- THE SECOND FORM's CARD OF 'sojournlaw09.FrameOpens'. -/
def frameOpensUptoCard : Claim7 := { stood := { row := frameOpensUptoRow, standIns := [], harness := (true, "6dadb5fec3461159f72d3fb6a6fb9656cb912754311c3fa7491cf0e26e04c55b"), looks := true }, kinds := [], alts := [], laidByText := true, laidKinds := [.handle], laidTests := true, laidLooks := .later }
def FrameOpensUptoCardSaid : Prop := Claim7.holds Tryd.pinned (.plain (OpenSpec.upto frameOpensSpec)) frameOpensUptoCard

/-- THE SECOND FORM's CARD OF 'sojournlaw09.FrameRows'. -/
def frameRowsUptoCard : Claim7 := { stood := { row := frameRowsUptoRow, standIns := [], harness := (true, "6dadb5fec3461159f72d3fb6a6fb9656cb912754311c3fa7491cf0e26e04c55b"), looks := true }, kinds := [], alts := [], laidByText := true, laidKinds := [.handle], laidTests := true, laidLooks := .later }
def FrameRowsUptoCardSaid : Prop := Claim7.holds Tryd.pinned (.plain (OpenSpec.upto frameRowsSpec)) frameRowsUptoCard
end Rows
end Go.Proofs.YtpdcbkleolciiaaDoor
