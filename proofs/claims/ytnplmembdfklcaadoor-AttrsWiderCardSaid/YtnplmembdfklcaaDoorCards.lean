/-
  DERIVED. GIVEN WITH THE SEED: THE CARDS: each row of YtnplmembdfklcaaDoorRows.lean that lists a variable, with what it lists TIED to the program's text (the seventh form; the later family's looks); each row that meets fmt, with fmt's text TOLD by the authors' own Lean function (tested against real Go, not proved from fmt's source: count such statements apart). THE CARD IS WHAT COUNTS. Prove the row's statement (the work); the ties are given (YtnplmembdfklcaaDoorTie.lean); close each card by the builder's one call (the guide's Derived/Test/ToyasCard.lean, 'card_holds'). Laid BY PROGRAM, IN A SANDBOX (cutbox-door.mjs). By AI agents, Wed Nov 11 2026. No macro, syntax, notation, axiom, sorry.
-/
import Derived.Test.YtnplmembdfklcaaDoorRows
import GoSem.ClaimSeven
namespace Go.Proofs.YtnplmembdfklcaaDoor
namespace Rows

/-- THE TIED CARD OF 'chandlerlaw08.AttrsNames'. -/
def attrsNamesCard : Claim7 := { stood := { row := attrsNamesRow, standIns := [], harness := (true, "707a78efc8c642432874ec9110a14c8011f4b8b056438fb91a57acf91f6c2b7b"), looks := false }, kinds := [], alts := [], laidByText := true, laidKinds := [.data, .pinned], laidTests := true, laidLooks := .later }
def AttrsNamesCardSaid : Prop := Claim7.holds Tryd.pinned (.plain (OpenSpec.ofChange attrsNamesSpec)) attrsNamesCard

/-- THE TIED CARD OF 'chandlerlaw08.AttrsFits'. -/
def attrsFitsCard : Claim7 := { stood := { row := attrsFitsRow, standIns := [], harness := (true, "707a78efc8c642432874ec9110a14c8011f4b8b056438fb91a57acf91f6c2b7b"), looks := false }, kinds := [], alts := [], laidByText := true, laidKinds := [.data, .pinned], laidTests := true, laidLooks := .later }
def AttrsFitsCardSaid : Prop := Claim7.holds Tryd.pinned (.plain (OpenSpec.ofChange attrsFitsSpec)) attrsFitsCard

/-- THE TIED CARD OF 'chandlerlaw08.AttrsGlobs'. -/
def attrsGlobsCard : Claim7 := { stood := { row := attrsGlobsRow, standIns := [], harness := (true, "707a78efc8c642432874ec9110a14c8011f4b8b056438fb91a57acf91f6c2b7b"), looks := false }, kinds := [], alts := [], laidByText := true, laidKinds := [.data, .pinned], laidTests := true, laidLooks := .later }
def AttrsGlobsCardSaid : Prop := Claim7.holds Tryd.pinned (.plain (OpenSpec.ofChange attrsGlobsSpec)) attrsGlobsCard

/-- THE TIED CARD OF 'chandlerlaw08.AttrsDirs'. -/
def attrsDirsCard : Claim7 := { stood := { row := attrsDirsRow, standIns := [], harness := (true, "707a78efc8c642432874ec9110a14c8011f4b8b056438fb91a57acf91f6c2b7b"), looks := false }, kinds := [], alts := [], laidByText := true, laidKinds := [.data, .pinned], laidTests := true, laidLooks := .later }
def AttrsDirsCardSaid : Prop := Claim7.holds Tryd.pinned (.plain (OpenSpec.ofChange attrsDirsSpec)) attrsDirsCard

/-- THE TIED CARD OF 'chandlerlaw08.AttrsWider'. -/
def attrsWiderCard : Claim7 := { stood := { row := attrsWiderRow, standIns := [], harness := (true, "707a78efc8c642432874ec9110a14c8011f4b8b056438fb91a57acf91f6c2b7b"), looks := false }, kinds := [], alts := [], laidByText := true, laidKinds := [.data, .data, .data, .data, .pinned], laidTests := true, laidLooks := .later }
def AttrsWiderCardSaid : Prop := Claim7.holds Tryd.pinned (.plain (OpenSpec.ofChange attrsWiderSpec)) attrsWiderCard

/-- THE SECOND FORM's CARD OF 'chandlerlaw08.AttrsNames'. -/
def attrsNamesUptoCard : Claim7 := { stood := { row := attrsNamesUptoRow, standIns := [], harness := (true, "707a78efc8c642432874ec9110a14c8011f4b8b056438fb91a57acf91f6c2b7b"), looks := false }, kinds := [], alts := [], laidByText := true, laidKinds := [.data, .pinned], laidTests := true, laidLooks := .later }
def AttrsNamesUptoCardSaid : Prop := Claim7.holds Tryd.pinned (.plain (OpenSpec.upto attrsNamesSpec)) attrsNamesUptoCard

/-- THE SECOND FORM's CARD OF 'chandlerlaw08.AttrsFits'. -/
def attrsFitsUptoCard : Claim7 := { stood := { row := attrsFitsUptoRow, standIns := [], harness := (true, "707a78efc8c642432874ec9110a14c8011f4b8b056438fb91a57acf91f6c2b7b"), looks := false }, kinds := [], alts := [], laidByText := true, laidKinds := [.data, .pinned], laidTests := true, laidLooks := .later }
def AttrsFitsUptoCardSaid : Prop := Claim7.holds Tryd.pinned (.plain (OpenSpec.upto attrsFitsSpec)) attrsFitsUptoCard

/-- THE SECOND FORM's CARD OF 'chandlerlaw08.AttrsGlobs'. -/
def attrsGlobsUptoCard : Claim7 := { stood := { row := attrsGlobsUptoRow, standIns := [], harness := (true, "707a78efc8c642432874ec9110a14c8011f4b8b056438fb91a57acf91f6c2b7b"), looks := false }, kinds := [], alts := [], laidByText := true, laidKinds := [.data, .pinned], laidTests := true, laidLooks := .later }
def AttrsGlobsUptoCardSaid : Prop := Claim7.holds Tryd.pinned (.plain (OpenSpec.upto attrsGlobsSpec)) attrsGlobsUptoCard

/-- THE SECOND FORM's CARD OF 'chandlerlaw08.AttrsDirs'. -/
def attrsDirsUptoCard : Claim7 := { stood := { row := attrsDirsUptoRow, standIns := [], harness := (true, "707a78efc8c642432874ec9110a14c8011f4b8b056438fb91a57acf91f6c2b7b"), looks := false }, kinds := [], alts := [], laidByText := true, laidKinds := [.data, .pinned], laidTests := true, laidLooks := .later }
def AttrsDirsUptoCardSaid : Prop := Claim7.holds Tryd.pinned (.plain (OpenSpec.upto attrsDirsSpec)) attrsDirsUptoCard

/-- THE SECOND FORM's CARD OF 'chandlerlaw08.AttrsWider'. -/
def attrsWiderUptoCard : Claim7 := { stood := { row := attrsWiderUptoRow, standIns := [], harness := (true, "707a78efc8c642432874ec9110a14c8011f4b8b056438fb91a57acf91f6c2b7b"), looks := false }, kinds := [], alts := [], laidByText := true, laidKinds := [.data, .data, .data, .data, .pinned], laidTests := true, laidLooks := .later }
def AttrsWiderUptoCardSaid : Prop := Claim7.holds Tryd.pinned (.plain (OpenSpec.upto attrsWiderSpec)) attrsWiderUptoCard
end Rows
end Go.Proofs.YtnplmembdfklcaaDoor
