/-
  No cell of these rows narrows 'for every input' (looked for: loops, veiled, ifaces, maps, wideKeys, modest, calm, conditions, laid).
  DERIVED. THE GIVEN ROWS OF THIS SEAT. 8 by the template 'for every input the law returns true; each argument reads behind the call as it read before'; 0 by the template 'total and deterministic' (their statements: YtkeagjphddcjeaaTotals.lean).
  GIVEN WITH THE SEED: the statements are not yours to turn. If you find one false, say at which input.
  Laid BY PROGRAM, IN A SANDBOX (cutbox-rows.mjs): the forced cells as the released guide's own fill.sh prints them over the translation d71eb2082176dc0e… (all of the seat's roots in one cut). By AI agents, Wed Nov 11 2026. No macro, syntax, notation, axiom, sorry.
-/
import Derived.Test.YtkeagjphddcjeaaChecked
import GoSem.Claim
import GoSem.ClaimJoined
import GoSem.ClaimMapViews
import Derived.JoinedTies
import Derived.KernelRfl
namespace Go.Proofs.Ytkeagjphddcjeaa
/- THE CELL 'sum', in the pinned program and in every row, IS THE sha256 OF THE DUMP (.gsa) THAT YtkeagjphddcjeaaProg.lean LOADS. Nothing in Lean hashes anything: it is a label: what it is worth is what the hold of that sum in a sandbox is worth. -/
noncomputable def Try.pinned : Pinned := { name := "ytkeagjphddcjeaa", sum := "d71eb2082176dc0e9b8df42b63afe6d7159af0e87861d5c13c1359d2e930615c", checked := Try.checked }
namespace Rows
def none {H : Type} : Left H := { results := [], args := [] }

/-- 'chandlerlaw17.SatNames': WHATEVER THE INPUT: true; the input reads as it did. -/
def satNamesSpec : ChangeSpec := { name := "satNames", fn := fun _ => fun
  | [] => { results := [.lit (.bool true)], args := [] }
  | _ => none }
def satNamesRow : OpenClaim := { program := "ytkeagjphddcjeaa", sum := "d71eb2082176dc0e9b8df42b63afe6d7159af0e87861d5c13c1359d2e930615c", func := "chandler/chandlerlaw17.SatNames", spec := "satNames", unfollowed := true, recurses := true, apart := false }
def SatNamesSaid : Prop := satNamesRow.holds Try.pinned (OpenSpec.ofChange satNamesSpec)

/-- ITS FALSE NEIGHBOUR: 'it returns false'. Refute it at one input. -/
def satNamesWrong : ChangeSpec := { name := "satNames", fn := fun _ => fun
  | [] => { results := [.lit (.bool false)], args := [] }
  | _ => none }
def SatNamesWrongFalsely : Prop := satNamesRow.holds Try.pinned (OpenSpec.ofChange satNamesWrong)

/-- 'chandlerlaw17.SatFinds': WHATEVER THE INPUT: true; the input reads as it did. -/
def satFindsSpec : ChangeSpec := { name := "satFinds", fn := fun _ => fun
  | [d1, d2, d3] => { results := [.lit (.bool true)], args := [d1, d2, d3] }
  | _ => none }
def satFindsRow : OpenClaim := { program := "ytkeagjphddcjeaa", sum := "d71eb2082176dc0e9b8df42b63afe6d7159af0e87861d5c13c1359d2e930615c", func := "chandler/chandlerlaw17.SatFinds", spec := "satFinds", unfollowed := true, recurses := true, apart := false }
def SatFindsSaid : Prop := satFindsRow.holds Try.pinned (OpenSpec.ofChange satFindsSpec)

/-- ITS FALSE NEIGHBOUR: 'it returns false'. Refute it at one input. -/
def satFindsWrong : ChangeSpec := { name := "satFinds", fn := fun _ => fun
  | [d1, d2, d3] => { results := [.lit (.bool false)], args := [d1, d2, d3] }
  | _ => none }
def SatFindsWrongFalsely : Prop := satFindsRow.holds Try.pinned (OpenSpec.ofChange satFindsWrong)

/-- 'chandlerlaw17.SatPlants': WHATEVER THE INPUT: true; the input reads as it did. -/
def satPlantsSpec : ChangeSpec := { name := "satPlants", fn := fun _ => fun
  | [d1, d2, d3] => { results := [.lit (.bool true)], args := [d1, d2, d3] }
  | _ => none }
def satPlantsRow : OpenClaim := { program := "ytkeagjphddcjeaa", sum := "d71eb2082176dc0e9b8df42b63afe6d7159af0e87861d5c13c1359d2e930615c", func := "chandler/chandlerlaw17.SatPlants", spec := "satPlants", unfollowed := true, recurses := true, apart := false }
def SatPlantsSaid : Prop := satPlantsRow.holds Try.pinned (OpenSpec.ofChange satPlantsSpec)

/-- ITS FALSE NEIGHBOUR: 'it returns false'. Refute it at one input. -/
def satPlantsWrong : ChangeSpec := { name := "satPlants", fn := fun _ => fun
  | [d1, d2, d3] => { results := [.lit (.bool false)], args := [d1, d2, d3] }
  | _ => none }
def SatPlantsWrongFalsely : Prop := satPlantsRow.holds Try.pinned (OpenSpec.ofChange satPlantsWrong)

/-- 'chandlerlaw17.SatHides': WHATEVER THE INPUT: true; the input reads as it did. -/
def satHidesSpec : ChangeSpec := { name := "satHides", fn := fun _ => fun
  | [d1, d2] => { results := [.lit (.bool true)], args := [d1, d2] }
  | _ => none }
def satHidesRow : OpenClaim := { program := "ytkeagjphddcjeaa", sum := "d71eb2082176dc0e9b8df42b63afe6d7159af0e87861d5c13c1359d2e930615c", func := "chandler/chandlerlaw17.SatHides", spec := "satHides", unfollowed := true, recurses := true, apart := false }
def SatHidesSaid : Prop := satHidesRow.holds Try.pinned (OpenSpec.ofChange satHidesSpec)

/-- ITS FALSE NEIGHBOUR: 'it returns false'. Refute it at one input. -/
def satHidesWrong : ChangeSpec := { name := "satHides", fn := fun _ => fun
  | [d1, d2] => { results := [.lit (.bool false)], args := [d1, d2] }
  | _ => none }
def SatHidesWrongFalsely : Prop := satHidesRow.holds Try.pinned (OpenSpec.ofChange satHidesWrong)

/-- 'chandlerlaw17.SatChains': WHATEVER THE INPUT: true; the input reads as it did. -/
def satChainsSpec : ChangeSpec := { name := "satChains", fn := fun _ => fun
  | [d1, d2] => { results := [.lit (.bool true)], args := [d1, d2] }
  | _ => none }
def satChainsRow : OpenClaim := { program := "ytkeagjphddcjeaa", sum := "d71eb2082176dc0e9b8df42b63afe6d7159af0e87861d5c13c1359d2e930615c", func := "chandler/chandlerlaw17.SatChains", spec := "satChains", unfollowed := true, recurses := true, apart := false }
def SatChainsSaid : Prop := satChainsRow.holds Try.pinned (OpenSpec.ofChange satChainsSpec)

/-- ITS FALSE NEIGHBOUR: 'it returns false'. Refute it at one input. -/
def satChainsWrong : ChangeSpec := { name := "satChains", fn := fun _ => fun
  | [d1, d2] => { results := [.lit (.bool false)], args := [d1, d2] }
  | _ => none }
def SatChainsWrongFalsely : Prop := satChainsRow.holds Try.pinned (OpenSpec.ofChange satChainsWrong)

/-- 'chandlerlaw17.SatPigeons': WHATEVER THE INPUT: true; the input reads as it did. -/
def satPigeonsSpec : ChangeSpec := { name := "satPigeons", fn := fun _ => fun
  | [d] => { results := [.lit (.bool true)], args := [d] }
  | _ => none }
def satPigeonsRow : OpenClaim := { program := "ytkeagjphddcjeaa", sum := "d71eb2082176dc0e9b8df42b63afe6d7159af0e87861d5c13c1359d2e930615c", func := "chandler/chandlerlaw17.SatPigeons", spec := "satPigeons", unfollowed := true, recurses := true, apart := false }
def SatPigeonsSaid : Prop := satPigeonsRow.holds Try.pinned (OpenSpec.ofChange satPigeonsSpec)

/-- ITS FALSE NEIGHBOUR: 'it returns false'. Refute it at one input. -/
def satPigeonsWrong : ChangeSpec := { name := "satPigeons", fn := fun _ => fun
  | [d] => { results := [.lit (.bool false)], args := [d] }
  | _ => none }
def SatPigeonsWrongFalsely : Prop := satPigeonsRow.holds Try.pinned (OpenSpec.ofChange satPigeonsWrong)

/-- 'chandlerlaw17.SatTurns': WHATEVER THE INPUT: true; the input reads as it did. -/
def satTurnsSpec : ChangeSpec := { name := "satTurns", fn := fun _ => fun
  | [d1, d2, d3] => { results := [.lit (.bool true)], args := [d1, d2, d3] }
  | _ => none }
def satTurnsRow : OpenClaim := { program := "ytkeagjphddcjeaa", sum := "d71eb2082176dc0e9b8df42b63afe6d7159af0e87861d5c13c1359d2e930615c", func := "chandler/chandlerlaw17.SatTurns", spec := "satTurns", unfollowed := true, recurses := true, apart := false }
def SatTurnsSaid : Prop := satTurnsRow.holds Try.pinned (OpenSpec.ofChange satTurnsSpec)

/-- ITS FALSE NEIGHBOUR: 'it returns false'. Refute it at one input. -/
def satTurnsWrong : ChangeSpec := { name := "satTurns", fn := fun _ => fun
  | [d1, d2, d3] => { results := [.lit (.bool false)], args := [d1, d2, d3] }
  | _ => none }
def SatTurnsWrongFalsely : Prop := satTurnsRow.holds Try.pinned (OpenSpec.ofChange satTurnsWrong)

/-- 'chandlerlaw17.SatMore': WHATEVER THE INPUT: true; the input reads as it did. -/
def satMoreSpec : ChangeSpec := { name := "satMore", fn := fun _ => fun
  | [d1, d2, d3, d4] => { results := [.lit (.bool true)], args := [d1, d2, d3, d4] }
  | _ => none }
def satMoreRow : OpenClaim := { program := "ytkeagjphddcjeaa", sum := "d71eb2082176dc0e9b8df42b63afe6d7159af0e87861d5c13c1359d2e930615c", func := "chandler/chandlerlaw17.SatMore", spec := "satMore", unfollowed := true, recurses := true, apart := false }
def SatMoreSaid : Prop := satMoreRow.holds Try.pinned (OpenSpec.ofChange satMoreSpec)

/-- ITS FALSE NEIGHBOUR: 'it returns false'. Refute it at one input. -/
def satMoreWrong : ChangeSpec := { name := "satMore", fn := fun _ => fun
  | [d1, d2, d3, d4] => { results := [.lit (.bool false)], args := [d1, d2, d3, d4] }
  | _ => none }
def SatMoreWrongFalsely : Prop := satMoreRow.holds Try.pinned (OpenSpec.ofChange satMoreWrong)

/- THE SECOND FORM. 'bulk': how many values and letters a reading holds, each counted each time it is reached (what is shared counts as often as it is met; a slice's spare places count too). A statement '..UptoSaid' is the law's where the arguments, and the package variables that the reading takes, are together of bulk at most 1048576: NARROWER than '..Said'. Prove '..Said' where nothing that the law and all that it calls make is longer than what came in: it says more and counts as full. Else prove '..UptoSaid'. A law counts once. -/
mutual
def uptoBulk {H : Type} : DataW H → Nat
  | .lit (.string bytes) => bytes.length + 1
  | .lit _ => 1
  | .nil => 1
  | .ptr d => uptoBulk d + 1
  | .slice elems spare => uptoBulkAll elems + uptoBulkAll spare + 1
  | .agg parts => uptoBulkAll parts + 1
  | .iface _ d => uptoBulk d + 1
  | .map entries => uptoBulkEntries entries + 1
  | .held _ => 1
def uptoBulkAll {H : Type} : List (DataW H) → Nat
  | [] => 0
  | d :: r => uptoBulk d + uptoBulkAll r
def uptoBulkEntries {H : Type} : List (Lit × DataW H) → Nat
  | [] => 0
  | x :: r => uptoBulkEntry x + uptoBulkEntries r
def uptoBulkEntry {H : Type} : Lit × DataW H → Nat
  | (.string bytes, d) => bytes.length + uptoBulk d + 1
  | (_, d) => uptoBulk d + 1
 end
def uptoSmall : (H : Type) → List (DataW H) → Bool := fun _ ds => decide (uptoBulkAll ds ≤ 1048576)
def OpenSpec.upto (s : _root_.Go.ChangeSpec) : _root_.Go.OpenSpec := { _root_.Go.OpenSpec.ofChange s with cond := some uptoSmall }

/-- 'chandlerlaw17.SatNames', WHERE WHAT IT READS IS OF BULK AT MOST 1048576: true; the input reads as it did. -/
def satNamesUptoRow : OpenClaim := { program := "ytkeagjphddcjeaa", sum := "d71eb2082176dc0e9b8df42b63afe6d7159af0e87861d5c13c1359d2e930615c", func := "chandler/chandlerlaw17.SatNames", spec := "satNames", unfollowed := true, recurses := true, apart := false, narrowed := true }
def SatNamesUptoSaid : Prop := satNamesUptoRow.holds Try.pinned (OpenSpec.upto satNamesSpec)

/-- 'chandlerlaw17.SatFinds', WHERE WHAT IT READS IS OF BULK AT MOST 1048576: true; the input reads as it did. -/
def satFindsUptoRow : OpenClaim := { program := "ytkeagjphddcjeaa", sum := "d71eb2082176dc0e9b8df42b63afe6d7159af0e87861d5c13c1359d2e930615c", func := "chandler/chandlerlaw17.SatFinds", spec := "satFinds", unfollowed := true, recurses := true, apart := false, narrowed := true }
def SatFindsUptoSaid : Prop := satFindsUptoRow.holds Try.pinned (OpenSpec.upto satFindsSpec)

/-- 'chandlerlaw17.SatPlants', WHERE WHAT IT READS IS OF BULK AT MOST 1048576: true; the input reads as it did. -/
def satPlantsUptoRow : OpenClaim := { program := "ytkeagjphddcjeaa", sum := "d71eb2082176dc0e9b8df42b63afe6d7159af0e87861d5c13c1359d2e930615c", func := "chandler/chandlerlaw17.SatPlants", spec := "satPlants", unfollowed := true, recurses := true, apart := false, narrowed := true }
def SatPlantsUptoSaid : Prop := satPlantsUptoRow.holds Try.pinned (OpenSpec.upto satPlantsSpec)

/-- 'chandlerlaw17.SatHides', WHERE WHAT IT READS IS OF BULK AT MOST 1048576: true; the input reads as it did. -/
def satHidesUptoRow : OpenClaim := { program := "ytkeagjphddcjeaa", sum := "d71eb2082176dc0e9b8df42b63afe6d7159af0e87861d5c13c1359d2e930615c", func := "chandler/chandlerlaw17.SatHides", spec := "satHides", unfollowed := true, recurses := true, apart := false, narrowed := true }
def SatHidesUptoSaid : Prop := satHidesUptoRow.holds Try.pinned (OpenSpec.upto satHidesSpec)

/-- 'chandlerlaw17.SatChains', WHERE WHAT IT READS IS OF BULK AT MOST 1048576: true; the input reads as it did. -/
def satChainsUptoRow : OpenClaim := { program := "ytkeagjphddcjeaa", sum := "d71eb2082176dc0e9b8df42b63afe6d7159af0e87861d5c13c1359d2e930615c", func := "chandler/chandlerlaw17.SatChains", spec := "satChains", unfollowed := true, recurses := true, apart := false, narrowed := true }
def SatChainsUptoSaid : Prop := satChainsUptoRow.holds Try.pinned (OpenSpec.upto satChainsSpec)

/-- 'chandlerlaw17.SatPigeons', WHERE WHAT IT READS IS OF BULK AT MOST 1048576: true; the input reads as it did. -/
def satPigeonsUptoRow : OpenClaim := { program := "ytkeagjphddcjeaa", sum := "d71eb2082176dc0e9b8df42b63afe6d7159af0e87861d5c13c1359d2e930615c", func := "chandler/chandlerlaw17.SatPigeons", spec := "satPigeons", unfollowed := true, recurses := true, apart := false, narrowed := true }
def SatPigeonsUptoSaid : Prop := satPigeonsUptoRow.holds Try.pinned (OpenSpec.upto satPigeonsSpec)

/-- 'chandlerlaw17.SatTurns', WHERE WHAT IT READS IS OF BULK AT MOST 1048576: true; the input reads as it did. -/
def satTurnsUptoRow : OpenClaim := { program := "ytkeagjphddcjeaa", sum := "d71eb2082176dc0e9b8df42b63afe6d7159af0e87861d5c13c1359d2e930615c", func := "chandler/chandlerlaw17.SatTurns", spec := "satTurns", unfollowed := true, recurses := true, apart := false, narrowed := true }
def SatTurnsUptoSaid : Prop := satTurnsUptoRow.holds Try.pinned (OpenSpec.upto satTurnsSpec)

/-- 'chandlerlaw17.SatMore', WHERE WHAT IT READS IS OF BULK AT MOST 1048576: true; the input reads as it did. -/
def satMoreUptoRow : OpenClaim := { program := "ytkeagjphddcjeaa", sum := "d71eb2082176dc0e9b8df42b63afe6d7159af0e87861d5c13c1359d2e930615c", func := "chandler/chandlerlaw17.SatMore", spec := "satMore", unfollowed := true, recurses := true, apart := false, narrowed := true }
def SatMoreUptoSaid : Prop := satMoreUptoRow.holds Try.pinned (OpenSpec.upto satMoreSpec)

end Rows
end Go.Proofs.Ytkeagjphddcjeaa
