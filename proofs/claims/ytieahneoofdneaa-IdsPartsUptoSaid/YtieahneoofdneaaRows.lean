/-
  No cell of these rows narrows 'for every input' (looked for: loops, veiled, ifaces, maps, wideKeys, modest, calm, conditions, laid).
  DERIVED. THE GIVEN ROWS OF THIS SEAT. 6 by the template 'for every input the law returns true; each argument reads behind the call as it read before'; 0 by the template 'total and deterministic' (their statements: YtieahneoofdneaaTotals.lean).
  GIVEN WITH THE SEED: the statements are not yours to turn. If you find one false, say at which input.
  Laid BY PROGRAM, IN A SANDBOX (cutbox-rows.mjs): the forced cells as the released guide's own fill.sh prints them over the translation 29300d9124da8052… (all of the seat's roots in one cut). By AI agents, Wed Nov 11 2026. No macro, syntax, notation, axiom, sorry.
-/
import Derived.Test.YtieahneoofdneaaChecked
import GoSem.Claim
import GoSem.ClaimJoined
import GoSem.ClaimMapViews
import Derived.JoinedTies
import Derived.KernelRfl
namespace Go.Proofs.Ytieahneoofdneaa
/- THE CELL 'sum', in the pinned program and in every row, IS THE sha256 OF THE DUMP (.gsa) THAT YtieahneoofdneaaProg.lean LOADS. Nothing in Lean hashes anything: it is a label: what it is worth is what the hold of that sum in a sandbox is worth. -/
noncomputable def Try.pinned : Pinned := { name := "ytieahneoofdneaa", sum := "29300d9124da80527871921b1c73cb003fa9d5c0cb75a0b5d7dfc10c3326d4c7", checked := Try.checked }
namespace Rows
def none {H : Type} : Left H := { results := [], args := [] }

/-- 'chandlerlaw01.IdsNames': WHATEVER THE INPUT: true; the input reads as it did. -/
def idsNamesSpec : ChangeSpec := { name := "idsNames", fn := fun _ => fun
  | [] => { results := [.lit (.bool true)], args := [] }
  | _ => none }
def idsNamesRow : OpenClaim := { program := "ytieahneoofdneaa", sum := "29300d9124da80527871921b1c73cb003fa9d5c0cb75a0b5d7dfc10c3326d4c7", func := "chandler/chandlerlaw01.IdsNames", spec := "idsNames", recurses := true, apart := false }
def IdsNamesSaid : Prop := idsNamesRow.holds Try.pinned (OpenSpec.ofChange idsNamesSpec)

/-- ITS FALSE NEIGHBOUR: 'it returns false'. Refute it at one input. -/
def idsNamesWrong : ChangeSpec := { name := "idsNames", fn := fun _ => fun
  | [] => { results := [.lit (.bool false)], args := [] }
  | _ => none }
def IdsNamesWrongFalsely : Prop := idsNamesRow.holds Try.pinned (OpenSpec.ofChange idsNamesWrong)

/-- 'chandlerlaw01.IdsReads': WHATEVER THE INPUT: true; the input reads as it did. -/
def idsReadsSpec : ChangeSpec := { name := "idsReads", fn := fun _ => fun
  | [d1, d2] => { results := [.lit (.bool true)], args := [d1, d2] }
  | _ => none }
def idsReadsRow : OpenClaim := { program := "ytieahneoofdneaa", sum := "29300d9124da80527871921b1c73cb003fa9d5c0cb75a0b5d7dfc10c3326d4c7", func := "chandler/chandlerlaw01.IdsReads", spec := "idsReads", recurses := true, apart := false }
def IdsReadsSaid : Prop := idsReadsRow.holds Try.pinned (OpenSpec.ofChange idsReadsSpec)

/-- ITS FALSE NEIGHBOUR: 'it returns false'. Refute it at one input. -/
def idsReadsWrong : ChangeSpec := { name := "idsReads", fn := fun _ => fun
  | [d1, d2] => { results := [.lit (.bool false)], args := [d1, d2] }
  | _ => none }
def IdsReadsWrongFalsely : Prop := idsReadsRow.holds Try.pinned (OpenSpec.ofChange idsReadsWrong)

/-- 'chandlerlaw01.IdsBack': WHATEVER THE INPUT: true; the input reads as it did. -/
def idsBackSpec : ChangeSpec := { name := "idsBack", fn := fun _ => fun
  | [d1, d2, d3] => { results := [.lit (.bool true)], args := [d1, d2, d3] }
  | _ => none }
def idsBackRow : OpenClaim := { program := "ytieahneoofdneaa", sum := "29300d9124da80527871921b1c73cb003fa9d5c0cb75a0b5d7dfc10c3326d4c7", func := "chandler/chandlerlaw01.IdsBack", spec := "idsBack", recurses := true, apart := false }
def IdsBackSaid : Prop := idsBackRow.holds Try.pinned (OpenSpec.ofChange idsBackSpec)

/-- ITS FALSE NEIGHBOUR: 'it returns false'. Refute it at one input. -/
def idsBackWrong : ChangeSpec := { name := "idsBack", fn := fun _ => fun
  | [d1, d2, d3] => { results := [.lit (.bool false)], args := [d1, d2, d3] }
  | _ => none }
def IdsBackWrongFalsely : Prop := idsBackRow.holds Try.pinned (OpenSpec.ofChange idsBackWrong)

/-- 'chandlerlaw01.IdsAdds': WHATEVER THE INPUT: true; the input reads as it did. -/
def idsAddsSpec : ChangeSpec := { name := "idsAdds", fn := fun _ => fun
  | [d] => { results := [.lit (.bool true)], args := [d] }
  | _ => none }
def idsAddsRow : OpenClaim := { program := "ytieahneoofdneaa", sum := "29300d9124da80527871921b1c73cb003fa9d5c0cb75a0b5d7dfc10c3326d4c7", func := "chandler/chandlerlaw01.IdsAdds", spec := "idsAdds", recurses := true, apart := false }
def IdsAddsSaid : Prop := idsAddsRow.holds Try.pinned (OpenSpec.ofChange idsAddsSpec)

/-- ITS FALSE NEIGHBOUR: 'it returns false'. Refute it at one input. -/
def idsAddsWrong : ChangeSpec := { name := "idsAdds", fn := fun _ => fun
  | [d] => { results := [.lit (.bool false)], args := [d] }
  | _ => none }
def IdsAddsWrongFalsely : Prop := idsAddsRow.holds Try.pinned (OpenSpec.ofChange idsAddsWrong)

/-- 'chandlerlaw01.IdsLists': WHATEVER THE INPUT: true; the input reads as it did. -/
def idsListsSpec : ChangeSpec := { name := "idsLists", fn := fun _ => fun
  | [d1, d2] => { results := [.lit (.bool true)], args := [d1, d2] }
  | _ => none }
def idsListsRow : OpenClaim := { program := "ytieahneoofdneaa", sum := "29300d9124da80527871921b1c73cb003fa9d5c0cb75a0b5d7dfc10c3326d4c7", func := "chandler/chandlerlaw01.IdsLists", spec := "idsLists", unfollowed := true, recurses := true, apart := false }
def IdsListsSaid : Prop := idsListsRow.holds Try.pinned (OpenSpec.ofChange idsListsSpec)

/-- ITS FALSE NEIGHBOUR: 'it returns false'. Refute it at one input. -/
def idsListsWrong : ChangeSpec := { name := "idsLists", fn := fun _ => fun
  | [d1, d2] => { results := [.lit (.bool false)], args := [d1, d2] }
  | _ => none }
def IdsListsWrongFalsely : Prop := idsListsRow.holds Try.pinned (OpenSpec.ofChange idsListsWrong)

/-- 'chandlerlaw01.IdsParts': WHATEVER THE INPUT: true; the input reads as it did. -/
def idsPartsSpec : ChangeSpec := { name := "idsParts", fn := fun _ => fun
  | [d1, d2] => { results := [.lit (.bool true)], args := [d1, d2] }
  | _ => none }
def idsPartsRow : OpenClaim := { program := "ytieahneoofdneaa", sum := "29300d9124da80527871921b1c73cb003fa9d5c0cb75a0b5d7dfc10c3326d4c7", func := "chandler/chandlerlaw01.IdsParts", spec := "idsParts", unfollowed := true, recurses := true, apart := false }
def IdsPartsSaid : Prop := idsPartsRow.holds Try.pinned (OpenSpec.ofChange idsPartsSpec)

/-- ITS FALSE NEIGHBOUR: 'it returns false'. Refute it at one input. -/
def idsPartsWrong : ChangeSpec := { name := "idsParts", fn := fun _ => fun
  | [d1, d2] => { results := [.lit (.bool false)], args := [d1, d2] }
  | _ => none }
def IdsPartsWrongFalsely : Prop := idsPartsRow.holds Try.pinned (OpenSpec.ofChange idsPartsWrong)

/- THE SECOND FORM. 'bulk': how many values and letters a reading holds, each counted each time it is reached (what is shared counts as often as it is met; a slice's spare places count too). A statement '..UptoSaid' is the law's where the arguments, and the package variables that the reading takes, are together of bulk at most 1048576: NARROWER than '..Said'. Prove '..Said' where nothing that the law and all that it calls make is longer than what came in: it says more and counts as full. Else prove '..UptoSaid'. A law counts once. -/
mutual
def uptoBulk {H : Type} : DataW H → Nat
  | .lit (.string bytes) => bytes.length + 1
  | .lit _ => 1
  | .nil => 1
  | .ptr d => uptoBulk d + 1
  | .slice elems spare => uptoBulkAll elems + uptoBulkAll spare + 1
  | .agg parts => uptoBulkAll parts + 1
  | .iface _ d => uptoBulk d + 1
  | .map entries => uptoBulkEntries entries + 1
  | .held _ => 1
def uptoBulkAll {H : Type} : List (DataW H) → Nat
  | [] => 0
  | d :: r => uptoBulk d + uptoBulkAll r
def uptoBulkEntries {H : Type} : List (Lit × DataW H) → Nat
  | [] => 0
  | x :: r => uptoBulkEntry x + uptoBulkEntries r
def uptoBulkEntry {H : Type} : Lit × DataW H → Nat
  | (.string bytes, d) => bytes.length + uptoBulk d + 1
  | (_, d) => uptoBulk d + 1
 end
def uptoSmall : (H : Type) → List (DataW H) → Bool := fun _ ds => decide (uptoBulkAll ds ≤ 1048576)
def OpenSpec.upto (s : _root_.Go.ChangeSpec) : _root_.Go.OpenSpec := { _root_.Go.OpenSpec.ofChange s with cond := some uptoSmall }

/-- 'chandlerlaw01.IdsNames', WHERE WHAT IT READS IS OF BULK AT MOST 1048576: true; the input reads as it did. -/
def idsNamesUptoRow : OpenClaim := { program := "ytieahneoofdneaa", sum := "29300d9124da80527871921b1c73cb003fa9d5c0cb75a0b5d7dfc10c3326d4c7", func := "chandler/chandlerlaw01.IdsNames", spec := "idsNames", recurses := true, apart := false, narrowed := true }
def IdsNamesUptoSaid : Prop := idsNamesUptoRow.holds Try.pinned (OpenSpec.upto idsNamesSpec)

/-- 'chandlerlaw01.IdsReads', WHERE WHAT IT READS IS OF BULK AT MOST 1048576: true; the input reads as it did. -/
def idsReadsUptoRow : OpenClaim := { program := "ytieahneoofdneaa", sum := "29300d9124da80527871921b1c73cb003fa9d5c0cb75a0b5d7dfc10c3326d4c7", func := "chandler/chandlerlaw01.IdsReads", spec := "idsReads", recurses := true, apart := false, narrowed := true }
def IdsReadsUptoSaid : Prop := idsReadsUptoRow.holds Try.pinned (OpenSpec.upto idsReadsSpec)

/-- 'chandlerlaw01.IdsBack', WHERE WHAT IT READS IS OF BULK AT MOST 1048576: true; the input reads as it did. -/
def idsBackUptoRow : OpenClaim := { program := "ytieahneoofdneaa", sum := "29300d9124da80527871921b1c73cb003fa9d5c0cb75a0b5d7dfc10c3326d4c7", func := "chandler/chandlerlaw01.IdsBack", spec := "idsBack", recurses := true, apart := false, narrowed := true }
def IdsBackUptoSaid : Prop := idsBackUptoRow.holds Try.pinned (OpenSpec.upto idsBackSpec)

/-- 'chandlerlaw01.IdsAdds', WHERE WHAT IT READS IS OF BULK AT MOST 1048576: true; the input reads as it did. -/
def idsAddsUptoRow : OpenClaim := { program := "ytieahneoofdneaa", sum := "29300d9124da80527871921b1c73cb003fa9d5c0cb75a0b5d7dfc10c3326d4c7", func := "chandler/chandlerlaw01.IdsAdds", spec := "idsAdds", recurses := true, apart := false, narrowed := true }
def IdsAddsUptoSaid : Prop := idsAddsUptoRow.holds Try.pinned (OpenSpec.upto idsAddsSpec)

/-- 'chandlerlaw01.IdsLists', WHERE WHAT IT READS IS OF BULK AT MOST 1048576: true; the input reads as it did. -/
def idsListsUptoRow : OpenClaim := { program := "ytieahneoofdneaa", sum := "29300d9124da80527871921b1c73cb003fa9d5c0cb75a0b5d7dfc10c3326d4c7", func := "chandler/chandlerlaw01.IdsLists", spec := "idsLists", unfollowed := true, recurses := true, apart := false, narrowed := true }
def IdsListsUptoSaid : Prop := idsListsUptoRow.holds Try.pinned (OpenSpec.upto idsListsSpec)

/-- 'chandlerlaw01.IdsParts', WHERE WHAT IT READS IS OF BULK AT MOST 1048576: true; the input reads as it did. -/
def idsPartsUptoRow : OpenClaim := { program := "ytieahneoofdneaa", sum := "29300d9124da80527871921b1c73cb003fa9d5c0cb75a0b5d7dfc10c3326d4c7", func := "chandler/chandlerlaw01.IdsParts", spec := "idsParts", unfollowed := true, recurses := true, apart := false, narrowed := true }
def IdsPartsUptoSaid : Prop := idsPartsUptoRow.holds Try.pinned (OpenSpec.upto idsPartsSpec)

end Rows
end Go.Proofs.Ytieahneoofdneaa
