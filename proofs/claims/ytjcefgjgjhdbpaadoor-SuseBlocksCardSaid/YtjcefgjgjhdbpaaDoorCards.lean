/-
  DERIVED. GIVEN WITH THE SEED: THE CARDS: each row of YtjcefgjgjhdbpaaDoorRows.lean that lists a variable, with what it lists TIED to the program's text (the seventh form; the later family's looks); each row that meets fmt, with fmt's text TOLD by the authors' own Lean function (tested against real Go, not proved from fmt's source: count such statements apart). THE CARD IS WHAT COUNTS. Prove the row's statement (the work); the ties are given (YtjcefgjgjhdbpaaDoorTie.lean); close each card by the builder's one call (the guide's Derived/Test/ToyasCard.lean, 'card_holds'). Laid BY PROGRAM, IN A SANDBOX (cutbox-door.mjs). By AI agents, Wed Nov 11 2026. No macro, syntax, notation, axiom, sorry.
-/
import Derived.Test.YtjcefgjgjhdbpaaDoorRows
import GoSem.ClaimSeven
namespace Go.Proofs.YtjcefgjgjhdbpaaDoor
namespace Rows

/-- THE TIED CARD OF 'chandlerlaw13.SuseNames'. -/
def suseNamesCard : Claim7 := { stood := { row := suseNamesRow, standIns := [], harness := (true, "98b02f3cf4399086acaf5e16997147c073daacdbc8af23af2e41a089026042de"), looks := true }, kinds := [], alts := [], laidByText := true, laidKinds := [.data, .pinned], laidTests := true, laidLooks := .later }
def SuseNamesCardSaid : Prop := Claim7.holds Tryd.pinned (.plain (OpenSpec.ofChange suseNamesSpec)) suseNamesCard

/-- THE TIED CARD OF 'chandlerlaw13.SuseJoins'. -/
def suseJoinsCard : Claim7 := { stood := { row := suseJoinsRow, standIns := [], harness := (true, "98b02f3cf4399086acaf5e16997147c073daacdbc8af23af2e41a089026042de"), looks := true }, kinds := [], alts := [], laidByText := true, laidKinds := [.data, .pinned], laidTests := true, laidLooks := .later }
def SuseJoinsCardSaid : Prop := Claim7.holds Tryd.pinned (.plain (OpenSpec.ofChange suseJoinsSpec)) suseJoinsCard

/-- THE TIED CARD OF 'chandlerlaw13.SuseBlocks'. -/
def suseBlocksCard : Claim7 := { stood := { row := suseBlocksRow, standIns := [], harness := (true, "98b02f3cf4399086acaf5e16997147c073daacdbc8af23af2e41a089026042de"), looks := true }, kinds := [], alts := [], laidByText := true, laidKinds := [.data, .pinned], laidTests := true, laidLooks := .later }
def SuseBlocksCardSaid : Prop := Claim7.holds Tryd.pinned (.plain (OpenSpec.ofChange suseBlocksSpec)) suseBlocksCard

/-- THE SECOND FORM's CARD OF 'chandlerlaw13.SuseNames'. -/
def suseNamesUptoCard : Claim7 := { stood := { row := suseNamesUptoRow, standIns := [], harness := (true, "98b02f3cf4399086acaf5e16997147c073daacdbc8af23af2e41a089026042de"), looks := true }, kinds := [], alts := [], laidByText := true, laidKinds := [.data, .pinned], laidTests := true, laidLooks := .later }
def SuseNamesUptoCardSaid : Prop := Claim7.holds Tryd.pinned (.plain (OpenSpec.upto suseNamesSpec)) suseNamesUptoCard

/-- THE SECOND FORM's CARD OF 'chandlerlaw13.SuseJoins'. -/
def suseJoinsUptoCard : Claim7 := { stood := { row := suseJoinsUptoRow, standIns := [], harness := (true, "98b02f3cf4399086acaf5e16997147c073daacdbc8af23af2e41a089026042de"), looks := true }, kinds := [], alts := [], laidByText := true, laidKinds := [.data, .pinned], laidTests := true, laidLooks := .later }
def SuseJoinsUptoCardSaid : Prop := Claim7.holds Tryd.pinned (.plain (OpenSpec.upto suseJoinsSpec)) suseJoinsUptoCard

/-- THE SECOND FORM's CARD OF 'chandlerlaw13.SuseBlocks'. -/
def suseBlocksUptoCard : Claim7 := { stood := { row := suseBlocksUptoRow, standIns := [], harness := (true, "98b02f3cf4399086acaf5e16997147c073daacdbc8af23af2e41a089026042de"), looks := true }, kinds := [], alts := [], laidByText := true, laidKinds := [.data, .pinned], laidTests := true, laidLooks := .later }
def SuseBlocksUptoCardSaid : Prop := Claim7.holds Tryd.pinned (.plain (OpenSpec.upto suseBlocksSpec)) suseBlocksUptoCard
end Rows
end Go.Proofs.YtjcefgjgjhdbpaaDoor
