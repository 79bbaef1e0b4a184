/-
  DERIVED. GIVEN WITH THE SEED: THE CARDS: each row of YteefmkjnepcanaaDoorRows.lean that lists a variable, with what it lists TIED to the program's text (the seventh form; the later family's looks); each row that meets fmt, with fmt's text TOLD by the authors' own Lean function (tested against real Go, not proved from fmt's source: count such statements apart). THE CARD IS WHAT COUNTS. Prove the row's statement (the work); the ties are given (YteefmkjnepcanaaDoorTie.lean); close each card by the builder's one call (the guide's Derived/Test/ToyasCard.lean, 'card_holds'). Laid BY PROGRAM, IN A SANDBOX (cutbox-door.mjs). By AI agents, Wed Nov 11 2026. No macro, syntax, notation, axiom, sorry.
-/
import Derived.Test.YteefmkjnepcanaaDoorRows
import GoSem.ClaimSeven
namespace Go.Proofs.YteefmkjnepcanaaDoor
namespace Rows

/-- THE TIED CARD OF 'sojournlaw04.TextBytes'. -/
def textBytesCard : Claim7 := { stood := { row := textBytesRow, standIns := [], harness := (true, "9a53cff08596c622b07867fa4440ca8dd823b6a98d4860fd64fb7d0f62b3bd96"), looks := true }, kinds := [], alts := [], laidByText := true, laidKinds := [.handle], laidTests := true, laidLooks := .later }
def TextBytesCardSaid : Prop := Claim7.holds Tryd.pinned (.plain (OpenSpec.ofChange textBytesSpec)) textBytesCard

/-- THE SECOND FORM's CARD OF 'sojournlaw04.TextBytes'. -/
def textBytesUptoCard : Claim7 := { stood := { row := textBytesUptoRow, standIns := [], harness := (true, "9a53cff08596c622b07867fa4440ca8dd823b6a98d4860fd64fb7d0f62b3bd96"), looks := true }, kinds := [], alts := [], laidByText := true, laidKinds := [.handle], laidTests := true, laidLooks := .later }
def TextBytesUptoCardSaid : Prop := Claim7.holds Tryd.pinned (.plain (OpenSpec.upto textBytesSpec)) textBytesUptoCard
end Rows
end Go.Proofs.YteefmkjnepcanaaDoor
