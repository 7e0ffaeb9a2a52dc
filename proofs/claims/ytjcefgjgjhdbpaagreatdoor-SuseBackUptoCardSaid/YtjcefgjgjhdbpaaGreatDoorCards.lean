/-
  DERIVED. GIVEN WITH THE SEED: THE CARDS: each row of YtjcefgjgjhdbpaaGreatDoorRows.lean that lists a variable, with what it lists TIED to the program's text (the seventh form; the later family's looks); each row that meets fmt, with fmt's text TOLD by the authors' own Lean function (tested against real Go, not proved from fmt's source: count such statements apart). THE CARD IS WHAT COUNTS. Prove the row's statement (the work); the ties are given (YtjcefgjgjhdbpaaGreatDoorTie.lean); close each card by the builder's one call (the guide's Derived/Test/ToyasCard.lean, 'card_holds'). Laid BY PROGRAM, IN A SANDBOX (cutbox-door.mjs). By AI agents, Wed Nov 11 2026. No macro, syntax, notation, axiom, sorry.
-/
import Derived.Test.YtjcefgjgjhdbpaaGreatDoorRows
import GoSem.ClaimSeven
namespace Go.Proofs.YtjcefgjgjhdbpaaGreatDoor
namespace Rows

/-- THE TIED CARD OF 'chandlerlaw13.SuseReads'. -/
def suseReadsCard : Claim7 := { stood := { row := suseReadsRow, standIns := [], harness := (true, "90e76f336dd11fbdefcd742968803bf786089fa0c91f217ba6c0fe27df997dec"), looks := true }, kinds := [], alts := [], laidByText := true, laidKinds := [.data, .pinned], laidTests := true, laidLooks := .later }
def SuseReadsCardSaid : Prop := Claim7.holds Tryz.pinned (.plain (OpenSpec.ofChange suseReadsSpec)) suseReadsCard

/-- THE TIED CARD OF 'chandlerlaw13.SuseBack'. -/
def suseBackCard : Claim7 := { stood := { row := suseBackRow, standIns := [], harness := (true, "90e76f336dd11fbdefcd742968803bf786089fa0c91f217ba6c0fe27df997dec"), looks := true }, kinds := [], alts := [], laidByText := true, laidKinds := [.data, .pinned], laidTests := true, laidLooks := .later }
def SuseBackCardSaid : Prop := Claim7.holds Tryz.pinned (.plain (OpenSpec.ofChange suseBackSpec)) suseBackCard

/-- THE TIED CARD OF 'chandlerlaw13.SuseAgain'. -/
def suseAgainCard : Claim7 := { stood := { row := suseAgainRow, standIns := [], harness := (true, "90e76f336dd11fbdefcd742968803bf786089fa0c91f217ba6c0fe27df997dec"), looks := true }, kinds := [], alts := [], laidByText := true, laidKinds := [.data, .pinned], laidTests := true, laidLooks := .later }
def SuseAgainCardSaid : Prop := Claim7.holds Tryz.pinned (.plain (OpenSpec.ofChange suseAgainSpec)) suseAgainCard

/-- THE SECOND FORM's CARD OF 'chandlerlaw13.SuseReads'. -/
def suseReadsUptoCard : Claim7 := { stood := { row := suseReadsUptoRow, standIns := [], harness := (true, "90e76f336dd11fbdefcd742968803bf786089fa0c91f217ba6c0fe27df997dec"), looks := true }, kinds := [], alts := [], laidByText := true, laidKinds := [.data, .pinned], laidTests := true, laidLooks := .later }
def SuseReadsUptoCardSaid : Prop := Claim7.holds Tryz.pinned (.plain (OpenSpec.upto suseReadsSpec)) suseReadsUptoCard

/-- THE SECOND FORM's CARD OF 'chandlerlaw13.SuseBack'. -/
def suseBackUptoCard : Claim7 := { stood := { row := suseBackUptoRow, standIns := [], harness := (true, "90e76f336dd11fbdefcd742968803bf786089fa0c91f217ba6c0fe27df997dec"), looks := true }, kinds := [], alts := [], laidByText := true, laidKinds := [.data, .pinned], laidTests := true, laidLooks := .later }
def SuseBackUptoCardSaid : Prop := Claim7.holds Tryz.pinned (.plain (OpenSpec.upto suseBackSpec)) suseBackUptoCard

/-- THE SECOND FORM's CARD OF 'chandlerlaw13.SuseAgain'. -/
def suseAgainUptoCard : Claim7 := { stood := { row := suseAgainUptoRow, standIns := [], harness := (true, "90e76f336dd11fbdefcd742968803bf786089fa0c91f217ba6c0fe27df997dec"), looks := true }, kinds := [], alts := [], laidByText := true, laidKinds := [.data, .pinned], laidTests := true, laidLooks := .later }
def SuseAgainUptoCardSaid : Prop := Claim7.holds Tryz.pinned (.plain (OpenSpec.upto suseAgainSpec)) suseAgainUptoCard
end Rows
end Go.Proofs.YtjcefgjgjhdbpaaGreatDoor
