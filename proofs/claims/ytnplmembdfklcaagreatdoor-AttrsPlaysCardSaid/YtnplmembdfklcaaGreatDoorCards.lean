/-
  DERIVED. GIVEN WITH THE SEED: THE CARDS: each row of YtnplmembdfklcaaGreatDoorRows.lean that lists a variable, with what it lists TIED to the program's text (the seventh form; the later family's looks); each row that meets fmt, with fmt's text TOLD by the authors' own Lean function (tested against real Go, not proved from fmt's source: count such statements apart). THE CARD IS WHAT COUNTS. Prove the row's statement (the work); the ties are given (YtnplmembdfklcaaGreatDoorTie.lean); close each card by the builder's one call (the guide's Derived/Test/ToyasCard.lean, 'card_holds'). Laid BY PROGRAM, IN A SANDBOX (cutbox-door.mjs). By AI agents, Wed Nov 11 2026. No macro, syntax, notation, axiom, sorry.
-/
import Derived.Test.YtnplmembdfklcaaGreatDoorRows
import GoSem.ClaimSeven
namespace Go.Proofs.YtnplmembdfklcaaGreatDoor
namespace Rows

/-- THE TIED CARD OF 'chandlerlaw08.AttrsPlays'. -/
def attrsPlaysCard : Claim7 := { stood := { row := attrsPlaysRow, standIns := [], harness := (true, "96ea1145d6aca0c3e00fff00fbab2c7d565dda5dd75c29f9b1b6104887dae92d"), looks := false }, kinds := [], alts := [], laidByText := true, laidKinds := [.data, .data, .data, .data, .pinned], laidTests := true, laidLooks := .later }
def AttrsPlaysCardSaid : Prop := Claim7.holds Tryz.pinned (.plain (OpenSpec.ofChange attrsPlaysSpec)) attrsPlaysCard

/-- THE TIED CARD OF 'chandlerlaw08.AttrsNil'. -/
def attrsNilCard : Claim7 := { stood := { row := attrsNilRow, standIns := [], harness := (true, "96ea1145d6aca0c3e00fff00fbab2c7d565dda5dd75c29f9b1b6104887dae92d"), looks := false }, kinds := [], alts := [], laidByText := true, laidKinds := [.data, .data, .data, .data, .pinned], laidTests := true, laidLooks := .later }
def AttrsNilCardSaid : Prop := Claim7.holds Tryz.pinned (.plain (OpenSpec.ofChange attrsNilSpec)) attrsNilCard

/-- THE SECOND FORM's CARD OF 'chandlerlaw08.AttrsPlays'. -/
def attrsPlaysUptoCard : Claim7 := { stood := { row := attrsPlaysUptoRow, standIns := [], harness := (true, "96ea1145d6aca0c3e00fff00fbab2c7d565dda5dd75c29f9b1b6104887dae92d"), looks := false }, kinds := [], alts := [], laidByText := true, laidKinds := [.data, .data, .data, .data, .pinned], laidTests := true, laidLooks := .later }
def AttrsPlaysUptoCardSaid : Prop := Claim7.holds Tryz.pinned (.plain (OpenSpec.upto attrsPlaysSpec)) attrsPlaysUptoCard

/-- THE SECOND FORM's CARD OF 'chandlerlaw08.AttrsNil'. -/
def attrsNilUptoCard : Claim7 := { stood := { row := attrsNilUptoRow, standIns := [], harness := (true, "96ea1145d6aca0c3e00fff00fbab2c7d565dda5dd75c29f9b1b6104887dae92d"), looks := false }, kinds := [], alts := [], laidByText := true, laidKinds := [.data, .data, .data, .data, .pinned], laidTests := true, laidLooks := .later }
def AttrsNilUptoCardSaid : Prop := Claim7.holds Tryz.pinned (.plain (OpenSpec.upto attrsNilSpec)) attrsNilUptoCard
end Rows
end Go.Proofs.YtnplmembdfklcaaGreatDoor
