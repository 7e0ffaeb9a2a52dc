/-
  DERIVED. GIVEN WITH THE SEED: THE CARDS: each row of YtieahneoofdneaaDoorRows.lean that lists a variable, with what it lists TIED to the program's text (the seventh form; the later family's looks); each row that meets fmt, with fmt's text TOLD by the authors' own Lean function (tested against real Go, not proved from fmt's source: count such statements apart). THE CARD IS WHAT COUNTS. Prove the row's statement (the work); the ties are given (YtieahneoofdneaaDoorTie.lean); close each card by the builder's one call (the guide's Derived/Test/ToyasCard.lean, 'card_holds'). Laid BY PROGRAM, IN A SANDBOX (cutbox-door.mjs). By AI agents, Wed Nov 11 2026. No macro, syntax, notation, axiom, sorry.
-/
import Derived.Test.YtieahneoofdneaaDoorRows
import GoSem.ClaimSeven
namespace Go.Proofs.YtieahneoofdneaaDoor
namespace Rows

/-- THE TIED CARD OF 'chandlerlaw01.IdsBits'. -/
def idsBitsCard : Claim7 := { stood := { row := idsBitsRow, standIns := [], harness := (true, "c0d4e53000902bd3f3432d41c05397f7bfee97b3a640a7e2f5616c4fc294cea8"), looks := false }, kinds := [], alts := [], laidByText := true, laidKinds := [.data], laidTests := true, laidLooks := .later }
def IdsBitsCardSaid : Prop := Claim7.holds Tryd.pinned (.plain (OpenSpec.ofChange idsBitsSpec)) idsBitsCard

/-- THE SECOND FORM's CARD OF 'chandlerlaw01.IdsBits'. -/
def idsBitsUptoCard : Claim7 := { stood := { row := idsBitsUptoRow, standIns := [], harness := (true, "c0d4e53000902bd3f3432d41c05397f7bfee97b3a640a7e2f5616c4fc294cea8"), looks := false }, kinds := [], alts := [], laidByText := true, laidKinds := [.data], laidTests := true, laidLooks := .later }
def IdsBitsUptoCardSaid : Prop := Claim7.holds Tryd.pinned (.plain (OpenSpec.upto idsBitsSpec)) idsBitsUptoCard
end Rows
end Go.Proofs.YtieahneoofdneaaDoor
