/-
  DERIVED. GIVEN WITH THE SEED: THE CARDS: each row of YtgggbjkgpjcklaaDoorRows.lean that lists a variable, with what it lists TIED to the program's text (the seventh form; the later family's looks); each row that meets fmt, with fmt's text TOLD by the authors' own Lean function (tested against real Go, not proved from fmt's source: count such statements apart). THE CARD IS WHAT COUNTS. Prove the row's statement (the work); the ties are given (YtgggbjkgpjcklaaDoorTie.lean); close each card by the builder's one call (the guide's Derived/Test/ToyasCard.lean, 'card_holds'). Laid BY PROGRAM, IN A SANDBOX (cutbox-door.mjs). By AI agents, Wed Nov 11 2026. No macro, syntax, notation, axiom, sorry.
-/
import Derived.Test.YtgggbjkgpjcklaaDoorRows
import GoSem.ClaimSeven
namespace Go.Proofs.YtgggbjkgpjcklaaDoor
namespace Rows

/-- THE TIED CARD OF 'chandlerlaw03.EvrNames'. -/
def evrNamesCard : Claim7 := { stood := { row := evrNamesRow, standIns := [], harness := (true, "d85900e72dd25d57aab16654a23e0b86b1d349275f40c356e72fe1d096d54ba2"), looks := false }, kinds := [], alts := [], laidByText := true, laidKinds := [.data, .pinned], laidTests := true, laidLooks := .later }
def EvrNamesCardSaid : Prop := Claim7.holds Tryd.pinned (.plain (OpenSpec.ofChange evrNamesSpec)) evrNamesCard

/-- THE TIED CARD OF 'chandlerlaw03.EvrParses'. -/
def evrParsesCard : Claim7 := { stood := { row := evrParsesRow, standIns := [], harness := (true, "d85900e72dd25d57aab16654a23e0b86b1d349275f40c356e72fe1d096d54ba2"), looks := false }, kinds := [], alts := [], laidByText := true, laidKinds := [.data, .pinned], laidTests := true, laidLooks := .later }
def EvrParsesCardSaid : Prop := Claim7.holds Tryd.pinned (.plain (OpenSpec.ofChange evrParsesSpec)) evrParsesCard

/-- THE TIED CARD OF 'chandlerlaw03.EvrCompares'. -/
def evrComparesCard : Claim7 := { stood := { row := evrComparesRow, standIns := [], harness := (true, "d85900e72dd25d57aab16654a23e0b86b1d349275f40c356e72fe1d096d54ba2"), looks := false }, kinds := [], alts := [], laidByText := true, laidKinds := [.data, .pinned], laidTests := true, laidLooks := .later }
def EvrComparesCardSaid : Prop := Claim7.holds Tryd.pinned (.plain (OpenSpec.ofChange evrComparesSpec)) evrComparesCard

/-- THE TIED CARD OF 'chandlerlaw03.EvrMeets'. -/
def evrMeetsCard : Claim7 := { stood := { row := evrMeetsRow, standIns := [], harness := (true, "d85900e72dd25d57aab16654a23e0b86b1d349275f40c356e72fe1d096d54ba2"), looks := false }, kinds := [], alts := [], laidByText := true, laidKinds := [.data, .pinned], laidTests := true, laidLooks := .later }
def EvrMeetsCardSaid : Prop := Claim7.holds Tryd.pinned (.plain (OpenSpec.ofChange evrMeetsSpec)) evrMeetsCard

/-- THE TIED CARD OF 'chandlerlaw03.EvrOrder'. -/
def evrOrderCard : Claim7 := { stood := { row := evrOrderRow, standIns := [], harness := (true, "d85900e72dd25d57aab16654a23e0b86b1d349275f40c356e72fe1d096d54ba2"), looks := false }, kinds := [], alts := [], laidByText := true, laidKinds := [.data, .pinned], laidTests := true, laidLooks := .later }
def EvrOrderCardSaid : Prop := Claim7.holds Tryd.pinned (.plain (OpenSpec.ofChange evrOrderSpec)) evrOrderCard

/-- THE TIED CARD OF 'chandlerlaw03.EvrJoins'. -/
def evrJoinsCard : Claim7 := { stood := { row := evrJoinsRow, standIns := [], harness := (true, "d85900e72dd25d57aab16654a23e0b86b1d349275f40c356e72fe1d096d54ba2"), looks := false }, kinds := [], alts := [], laidByText := true, laidKinds := [.data, .pinned], laidTests := true, laidLooks := .later }
def EvrJoinsCardSaid : Prop := Claim7.holds Tryd.pinned (.plain (OpenSpec.ofChange evrJoinsSpec)) evrJoinsCard

/-- THE TIED CARD OF 'chandlerlaw03.EvrSpans'. -/
def evrSpansCard : Claim7 := { stood := { row := evrSpansRow, standIns := [], harness := (true, "d85900e72dd25d57aab16654a23e0b86b1d349275f40c356e72fe1d096d54ba2"), looks := false }, kinds := [], alts := [], laidByText := true, laidKinds := [.data, .pinned], laidTests := true, laidLooks := .later }
def EvrSpansCardSaid : Prop := Claim7.holds Tryd.pinned (.plain (OpenSpec.ofChange evrSpansSpec)) evrSpansCard

/-- THE TIED CARD OF 'chandlerlaw03.EvrZeros'. -/
def evrZerosCard : Claim7 := { stood := { row := evrZerosRow, standIns := [], harness := (true, "d85900e72dd25d57aab16654a23e0b86b1d349275f40c356e72fe1d096d54ba2"), looks := false }, kinds := [], alts := [], laidByText := true, laidKinds := [.data, .data, .data, .data, .pinned], laidTests := true, laidLooks := .later }
def EvrZerosCardSaid : Prop := Claim7.holds Tryd.pinned (.plain (OpenSpec.ofChange evrZerosSpec)) evrZerosCard

/-- THE SECOND FORM's CARD OF 'chandlerlaw03.EvrNames'. -/
def evrNamesUptoCard : Claim7 := { stood := { row := evrNamesUptoRow, standIns := [], harness := (true, "d85900e72dd25d57aab16654a23e0b86b1d349275f40c356e72fe1d096d54ba2"), looks := false }, kinds := [], alts := [], laidByText := true, laidKinds := [.data, .pinned], laidTests := true, laidLooks := .later }
def EvrNamesUptoCardSaid : Prop := Claim7.holds Tryd.pinned (.plain (OpenSpec.upto evrNamesSpec)) evrNamesUptoCard

/-- THE SECOND FORM's CARD OF 'chandlerlaw03.EvrParses'. -/
def evrParsesUptoCard : Claim7 := { stood := { row := evrParsesUptoRow, standIns := [], harness := (true, "d85900e72dd25d57aab16654a23e0b86b1d349275f40c356e72fe1d096d54ba2"), looks := false }, kinds := [], alts := [], laidByText := true, laidKinds := [.data, .pinned], laidTests := true, laidLooks := .later }
def EvrParsesUptoCardSaid : Prop := Claim7.holds Tryd.pinned (.plain (OpenSpec.upto evrParsesSpec)) evrParsesUptoCard

/-- THE SECOND FORM's CARD OF 'chandlerlaw03.EvrCompares'. -/
def evrComparesUptoCard : Claim7 := { stood := { row := evrComparesUptoRow, standIns := [], harness := (true, "d85900e72dd25d57aab16654a23e0b86b1d349275f40c356e72fe1d096d54ba2"), looks := false }, kinds := [], alts := [], laidByText := true, laidKinds := [.data, .pinned], laidTests := true, laidLooks := .later }
def EvrComparesUptoCardSaid : Prop := Claim7.holds Tryd.pinned (.plain (OpenSpec.upto evrComparesSpec)) evrComparesUptoCard

/-- THE SECOND FORM's CARD OF 'chandlerlaw03.EvrMeets'. -/
def evrMeetsUptoCard : Claim7 := { stood := { row := evrMeetsUptoRow, standIns := [], harness := (true, "d85900e72dd25d57aab16654a23e0b86b1d349275f40c356e72fe1d096d54ba2"), looks := false }, kinds := [], alts := [], laidByText := true, laidKinds := [.data, .pinned], laidTests := true, laidLooks := .later }
def EvrMeetsUptoCardSaid : Prop := Claim7.holds Tryd.pinned (.plain (OpenSpec.upto evrMeetsSpec)) evrMeetsUptoCard

/-- THE SECOND FORM's CARD OF 'chandlerlaw03.EvrOrder'. -/
def evrOrderUptoCard : Claim7 := { stood := { row := evrOrderUptoRow, standIns := [], harness := (true, "d85900e72dd25d57aab16654a23e0b86b1d349275f40c356e72fe1d096d54ba2"), looks := false }, kinds := [], alts := [], laidByText := true, laidKinds := [.data, .pinned], laidTests := true, laidLooks := .later }
def EvrOrderUptoCardSaid : Prop := Claim7.holds Tryd.pinned (.plain (OpenSpec.upto evrOrderSpec)) evrOrderUptoCard

/-- THE SECOND FORM's CARD OF 'chandlerlaw03.EvrJoins'. -/
def evrJoinsUptoCard : Claim7 := { stood := { row := evrJoinsUptoRow, standIns := [], harness := (true, "d85900e72dd25d57aab16654a23e0b86b1d349275f40c356e72fe1d096d54ba2"), looks := false }, kinds := [], alts := [], laidByText := true, laidKinds := [.data, .pinned], laidTests := true, laidLooks := .later }
def EvrJoinsUptoCardSaid : Prop := Claim7.holds Tryd.pinned (.plain (OpenSpec.upto evrJoinsSpec)) evrJoinsUptoCard

/-- THE SECOND FORM's CARD OF 'chandlerlaw03.EvrSpans'. -/
def evrSpansUptoCard : Claim7 := { stood := { row := evrSpansUptoRow, standIns := [], harness := (true, "d85900e72dd25d57aab16654a23e0b86b1d349275f40c356e72fe1d096d54ba2"), looks := false }, kinds := [], alts := [], laidByText := true, laidKinds := [.data, .pinned], laidTests := true, laidLooks := .later }
def EvrSpansUptoCardSaid : Prop := Claim7.holds Tryd.pinned (.plain (OpenSpec.upto evrSpansSpec)) evrSpansUptoCard

/-- THE SECOND FORM's CARD OF 'chandlerlaw03.EvrZeros'. -/
def evrZerosUptoCard : Claim7 := { stood := { row := evrZerosUptoRow, standIns := [], harness := (true, "d85900e72dd25d57aab16654a23e0b86b1d349275f40c356e72fe1d096d54ba2"), looks := false }, kinds := [], alts := [], laidByText := true, laidKinds := [.data, .data, .data, .data, .pinned], laidTests := true, laidLooks := .later }
def EvrZerosUptoCardSaid : Prop := Claim7.holds Tryd.pinned (.plain (OpenSpec.upto evrZerosSpec)) evrZerosUptoCard
end Rows
end Go.Proofs.YtgggbjkgpjcklaaDoor
