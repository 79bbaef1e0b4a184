/-
  DERIVED. GIVEN WITH THE SEED: THE CARDS: each row of YtefkgpcdabmkkaaDoorRows.lean that lists a variable, with what it lists TIED to the program's text (the seventh form; the later family's looks); each row that meets fmt, with fmt's text TOLD by the authors' own Lean function (tested against real Go, not proved from fmt's source: count such statements apart). THE CARD IS WHAT COUNTS. Prove the row's statement (the work); the ties are given (YtefkgpcdabmkkaaDoorTie.lean); close each card by the builder's one call (the guide's Derived/Test/ToyasCard.lean, 'card_holds'). Laid BY PROGRAM, IN A SANDBOX (cutbox-door.mjs). By AI agents, Wed Nov 11 2026. No macro, syntax, notation, axiom, sorry.
-/
import Derived.Test.YtefkgpcdabmkkaaDoorRows
import GoSem.ClaimSeven
namespace Go.Proofs.YtefkgpcdabmkkaaDoor
namespace Rows

/-- THE TIED CARD OF 'sojournlaw13.CookieFinds'. -/
def cookieFindsCard : Claim7 := { stood := { row := cookieFindsRow, standIns := [], harness := (true, "853e2e3fe81339d08a317fa30ab9897f2d9e8abce51723d1c746aa6c98f394f0"), looks := true }, kinds := [], alts := [], laidByText := true, laidKinds := [.handle], laidTests := true, laidLooks := .later }
def CookieFindsCardSaid : Prop := Claim7.holds Tryd.pinned (.plain (OpenSpec.ofChange cookieFindsSpec)) cookieFindsCard

/-- THE TIED CARD OF 'sojournlaw13.CookieParses'. -/
def cookieParsesCard : Claim7 := { stood := { row := cookieParsesRow, standIns := [], harness := (true, "853e2e3fe81339d08a317fa30ab9897f2d9e8abce51723d1c746aa6c98f394f0"), looks := true }, kinds := [], alts := [], laidByText := true, laidKinds := [.handle], laidTests := true, laidLooks := .later }
def CookieParsesCardSaid : Prop := Claim7.holds Tryd.pinned (.plain (OpenSpec.ofChange cookieParsesSpec)) cookieParsesCard

/-- THE TIED CARD OF 'sojournlaw13.CookieWrites'. -/
def cookieWritesCard : Claim7 := { stood := { row := cookieWritesRow, standIns := [], harness := (true, "853e2e3fe81339d08a317fa30ab9897f2d9e8abce51723d1c746aa6c98f394f0"), looks := true }, kinds := [], alts := [], laidByText := true, laidKinds := [.handle], laidTests := true, laidLooks := .later }
def CookieWritesCardSaid : Prop := Claim7.holds Tryd.pinned (.plain (OpenSpec.ofChange cookieWritesSpec)) cookieWritesCard

/-- THE SECOND FORM's CARD OF 'sojournlaw13.CookieFinds'. -/
def cookieFindsUptoCard : Claim7 := { stood := { row := cookieFindsUptoRow, standIns := [], harness := (true, "853e2e3fe81339d08a317fa30ab9897f2d9e8abce51723d1c746aa6c98f394f0"), looks := true }, kinds := [], alts := [], laidByText := true, laidKinds := [.handle], laidTests := true, laidLooks := .later }
def CookieFindsUptoCardSaid : Prop := Claim7.holds Tryd.pinned (.plain (OpenSpec.upto cookieFindsSpec)) cookieFindsUptoCard

/-- THE SECOND FORM's CARD OF 'sojournlaw13.CookieParses'. -/
def cookieParsesUptoCard : Claim7 := { stood := { row := cookieParsesUptoRow, standIns := [], harness := (true, "853e2e3fe81339d08a317fa30ab9897f2d9e8abce51723d1c746aa6c98f394f0"), looks := true }, kinds := [], alts := [], laidByText := true, laidKinds := [.handle], laidTests := true, laidLooks := .later }
def CookieParsesUptoCardSaid : Prop := Claim7.holds Tryd.pinned (.plain (OpenSpec.upto cookieParsesSpec)) cookieParsesUptoCard

/-- THE SECOND FORM's CARD OF 'sojournlaw13.CookieWrites'. -/
def cookieWritesUptoCard : Claim7 := { stood := { row := cookieWritesUptoRow, standIns := [], harness := (true, "853e2e3fe81339d08a317fa30ab9897f2d9e8abce51723d1c746aa6c98f394f0"), looks := true }, kinds := [], alts := [], laidByText := true, laidKinds := [.handle], laidTests := true, laidLooks := .later }
def CookieWritesUptoCardSaid : Prop := Claim7.holds Tryd.pinned (.plain (OpenSpec.upto cookieWritesSpec)) cookieWritesUptoCard
end Rows
end Go.Proofs.YtefkgpcdabmkkaaDoor
