/-
  DERIVED. GIVEN WITH THE SEED: THE CARDS: each row of YtdigpnmekdmjmaaDoorRows.lean that lists a variable, with what it lists TIED to the program's text (the seventh form; the later family's looks); each row that meets fmt, with fmt's text TOLD by the authors' own Lean function (tested against real Go, not proved from fmt's source: count such statements apart). THE CARD IS WHAT COUNTS. Prove the row's statement (the work); the ties are given (YtdigpnmekdmjmaaDoorTie.lean); close each card by the builder's one call (the guide's Derived/Test/ToyasCard.lean, 'card_holds'). Laid BY PROGRAM, IN A SANDBOX (cutbox-door.mjs). By AI agents, Wed Nov 11 2026. No macro, syntax, notation, axiom, sorry.
-/
import Derived.Test.YtdigpnmekdmjmaaDoorRows
import GoSem.ClaimSeven
namespace Go.Proofs.YtdigpnmekdmjmaaDoor
namespace Rows

/-- THE TIED CARD OF 'sojournlaw01.FailClass'. -/
def failClassCard : Claim7 := { stood := { row := failClassRow, standIns := [], harness := (true, "b2cdc227fda6f00293b8aa8455d1b231f5e9e944c25cdd89553f8ede60e09ead"), looks := true }, kinds := [], alts := [], laidByText := true, laidKinds := [.handle], laidTests := true, laidLooks := .later }
def FailClassCardSaid : Prop := Claim7.holds Tryd.pinned (.plain (OpenSpec.ofChange failClassSpec)) failClassCard

/-- THE TIED CARD OF 'sojournlaw01.FailNone'. -/
def failNoneCard : Claim7 := { stood := { row := failNoneRow, standIns := [], harness := (true, "b2cdc227fda6f00293b8aa8455d1b231f5e9e944c25cdd89553f8ede60e09ead"), looks := true }, kinds := [], alts := [], laidByText := true, laidKinds := [.handle], laidTests := true, laidLooks := .later }
def FailNoneCardSaid : Prop := Claim7.holds Tryd.pinned (.plain (OpenSpec.ofChange failNoneSpec)) failNoneCard

/-- THE TIED CARD OF 'sojournlaw01.FailWraps'. -/
def failWrapsCard : Claim7 := { stood := { row := failWrapsRow, standIns := [], harness := (true, "b2cdc227fda6f00293b8aa8455d1b231f5e9e944c25cdd89553f8ede60e09ead"), looks := true }, kinds := [], alts := [], laidByText := true, laidKinds := [.handle], laidTests := true, laidLooks := .later }
def FailWrapsCardSaid : Prop := Claim7.holds Tryd.pinned (.plain (OpenSpec.ofChange failWrapsSpec)) failWrapsCard

/-- THE SECOND FORM's CARD OF 'sojournlaw01.FailClass'. -/
def failClassUptoCard : Claim7 := { stood := { row := failClassUptoRow, standIns := [], harness := (true, "b2cdc227fda6f00293b8aa8455d1b231f5e9e944c25cdd89553f8ede60e09ead"), looks := true }, kinds := [], alts := [], laidByText := true, laidKinds := [.handle], laidTests := true, laidLooks := .later }
def FailClassUptoCardSaid : Prop := Claim7.holds Tryd.pinned (.plain (OpenSpec.upto failClassSpec)) failClassUptoCard

/-- THE SECOND FORM's CARD OF 'sojournlaw01.FailNone'. -/
def failNoneUptoCard : Claim7 := { stood := { row := failNoneUptoRow, standIns := [], harness := (true, "b2cdc227fda6f00293b8aa8455d1b231f5e9e944c25cdd89553f8ede60e09ead"), looks := true }, kinds := [], alts := [], laidByText := true, laidKinds := [.handle], laidTests := true, laidLooks := .later }
def FailNoneUptoCardSaid : Prop := Claim7.holds Tryd.pinned (.plain (OpenSpec.upto failNoneSpec)) failNoneUptoCard

/-- THE SECOND FORM's CARD OF 'sojournlaw01.FailWraps'. -/
def failWrapsUptoCard : Claim7 := { stood := { row := failWrapsUptoRow, standIns := [], harness := (true, "b2cdc227fda6f00293b8aa8455d1b231f5e9e944c25cdd89553f8ede60e09ead"), looks := true }, kinds := [], alts := [], laidByText := true, laidKinds := [.handle], laidTests := true, laidLooks := .later }
def FailWrapsUptoCardSaid : Prop := Claim7.holds Tryd.pinned (.plain (OpenSpec.upto failWrapsSpec)) failWrapsUptoCard
end Rows
end Go.Proofs.YtdigpnmekdmjmaaDoor
