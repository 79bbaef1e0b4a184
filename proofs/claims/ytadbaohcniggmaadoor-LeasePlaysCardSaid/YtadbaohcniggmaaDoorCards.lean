/-
  DERIVED. GIVEN WITH THE SEED: THE CARDS: each row of YtadbaohcniggmaaDoorRows.lean that lists a variable, with what it lists TIED to the program's text (the seventh form; the later family's looks); each row that meets fmt, with fmt's text TOLD by the authors' own Lean function (tested against real Go, not proved from fmt's source: count such statements apart). THE CARD IS WHAT COUNTS. Prove the row's statement (the work); the ties are given (YtadbaohcniggmaaDoorTie.lean); close each card by the builder's one call (the guide's Derived/Test/ToyasCard.lean, 'card_holds'). Laid BY PROGRAM, IN A SANDBOX (cutbox-door.mjs). By AI agents, Wed Nov 11 2026. No macro, syntax, notation, axiom, sorry.
-/
import Derived.Test.YtadbaohcniggmaaDoorRows
import GoSem.ClaimSeven
namespace Go.Proofs.YtadbaohcniggmaaDoor
namespace Rows

/-- THE TIED CARD OF 'sojournlaw22.LeasePlays'. -/
def leasePlaysCard : Claim7 := { stood := { row := leasePlaysRow, standIns := [], harness := (true, "44db15e13ec52852df3b4298a1e8fb8e0ca572b578d5a9d5f87aa26e5f88419e"), looks := true }, kinds := [], alts := [], laidByText := true, laidKinds := [.handle], laidTests := true, laidLooks := .later }
def LeasePlaysCardSaid : Prop := Claim7.holds Tryd.pinned (.plain (OpenSpec.ofChange leasePlaysSpec)) leasePlaysCard

/-- THE SECOND FORM's CARD OF 'sojournlaw22.LeasePlays'. -/
def leasePlaysUptoCard : Claim7 := { stood := { row := leasePlaysUptoRow, standIns := [], harness := (true, "44db15e13ec52852df3b4298a1e8fb8e0ca572b578d5a9d5f87aa26e5f88419e"), looks := true }, kinds := [], alts := [], laidByText := true, laidKinds := [.handle], laidTests := true, laidLooks := .later }
def LeasePlaysUptoCardSaid : Prop := Claim7.holds Tryd.pinned (.plain (OpenSpec.upto leasePlaysSpec)) leasePlaysUptoCard
end Rows
end Go.Proofs.YtadbaohcniggmaaDoor
