/-
  NARROWER THAN 'FOR EVERY INPUT', by the rows' own cells (each row's printed sentence says how): CacheSmall: loops · CacheApart: loops · CacheBack: loops.
  DERIVED. THE GIVEN ROWS OF THIS SEAT. 7 by the template 'for every input the law returns true; each argument reads behind the call as it read before'; 0 by the template 'total and deterministic' (their statements: YtbdankpkdhhlmaaGreatTotals.lean).
  GIVEN WITH THE SEED: the statements are not yours to turn. If you find one false, say at which input.
  Laid BY PROGRAM, IN A SANDBOX (cutbox-rows.mjs): the forced cells as the released guide's own fill.sh prints them over the translation 622820eb0c639089… (all of the seat's roots in one cut). By AI agents, Wed Nov 11 2026. No macro, syntax, notation, axiom, sorry.
-/
import Derived.Test.YtbdankpkdhhlmaaGreatChecked
import GoSem.Claim
import GoSem.ClaimJoined
import GoSem.ClaimMapViews
import Derived.JoinedTies
import Derived.KernelRfl
namespace Go.Proofs.YtbdankpkdhhlmaaGreat
/- THE CELL 'sum', in the pinned program and in every row, IS THE sha256 OF THE DUMP (.gsa) THAT YtbdankpkdhhlmaaGreatProg.lean LOADS. Nothing in Lean hashes anything: it is a label: what it is worth is what the hold of that sum in a sandbox is worth. -/
noncomputable def Tryz.pinned : Pinned := { name := "ytbdankpkdhhlmaagreat", sum := "622820eb0c639089256270d0e91c187f3de9d88a903bb0d43dc35153e04d6689", checked := Tryz.checked }
namespace Rows
def none {H : Type} : Left H := { results := [], args := [] }

/-- 'chandlerlaw09.CacheNames': WHATEVER THE INPUT: true; the input reads as it did. -/
def cacheNamesSpec : ChangeSpec := { name := "cacheNames", fn := fun _ => fun
  | [] => { results := [.lit (.bool true)], args := [] }
  | _ => none }
def cacheNamesRow : OpenClaim := { program := "ytbdankpkdhhlmaagreat", sum := "622820eb0c639089256270d0e91c187f3de9d88a903bb0d43dc35153e04d6689", func := "chandler/chandlerlaw09.CacheNames", spec := "cacheNames", inPlace := ["internal/bytealg.IndexByteString", "internal/bytealg.IndexString"], unfollowed := true, recurses := true, named := ["internal/bytealg.MaxLen"], apart := false }
def CacheNamesSaid : Prop := cacheNamesRow.holds Tryz.pinned (OpenSpec.ofChange cacheNamesSpec)

/-- ITS FALSE NEIGHBOUR: 'it returns false'. Refute it at one input. -/
def cacheNamesWrong : ChangeSpec := { name := "cacheNames", fn := fun _ => fun
  | [] => { results := [.lit (.bool false)], args := [] }
  | _ => none }
def CacheNamesWrongFalsely : Prop := cacheNamesRow.holds Tryz.pinned (OpenSpec.ofChange cacheNamesWrong)

/-- 'chandlerlaw09.CacheReads': WHATEVER THE INPUT: true; the input reads as it did. -/
def cacheReadsSpec : ChangeSpec := { name := "cacheReads", fn := fun _ => fun
  | [d] => { results := [.lit (.bool true)], args := [d] }
  | _ => none }
def cacheReadsRow : OpenClaim := { program := "ytbdankpkdhhlmaagreat", sum := "622820eb0c639089256270d0e91c187f3de9d88a903bb0d43dc35153e04d6689", func := "chandler/chandlerlaw09.CacheReads", spec := "cacheReads", inPlace := ["internal/bytealg.IndexByteString", "internal/bytealg.IndexString"], unfollowed := true, recurses := true, named := ["internal/bytealg.MaxLen"], apart := false }
def CacheReadsSaid : Prop := cacheReadsRow.holds Tryz.pinned (OpenSpec.ofChange cacheReadsSpec)

/-- ITS FALSE NEIGHBOUR: 'it returns false'. Refute it at one input. -/
def cacheReadsWrong : ChangeSpec := { name := "cacheReads", fn := fun _ => fun
  | [d] => { results := [.lit (.bool false)], args := [d] }
  | _ => none }
def CacheReadsWrongFalsely : Prop := cacheReadsRow.holds Tryz.pinned (OpenSpec.ofChange cacheReadsWrong)

/-- 'chandlerlaw09.CacheSmall': WHATEVER THE INPUT: true; the input reads as it did. -/
def cacheSmallSpec : ChangeSpec := { name := "cacheSmall", fn := fun _ => fun
  | [d1, d2] => { results := [.lit (.bool true)], args := [d1, d2] }
  | _ => none }
def cacheSmallRow : OpenClaim := { program := "ytbdankpkdhhlmaagreat", sum := "622820eb0c639089256270d0e91c187f3de9d88a903bb0d43dc35153e04d6689", func := "chandler/chandlerlaw09.CacheSmall", spec := "cacheSmall", inPlace := ["internal/bytealg.IndexByteString", "internal/bytealg.IndexString"], unfollowed := true, recurses := true, named := ["internal/bytealg.MaxLen"], loops := true, apart := false }
def CacheSmallSaid : Prop := cacheSmallRow.holds Tryz.pinned (OpenSpec.ofChange cacheSmallSpec)

/-- ITS FALSE NEIGHBOUR: 'it returns false'. Refute it at one input. -/
def cacheSmallWrong : ChangeSpec := { name := "cacheSmall", fn := fun _ => fun
  | [d1, d2] => { results := [.lit (.bool false)], args := [d1, d2] }
  | _ => none }
def CacheSmallWrongFalsely : Prop := cacheSmallRow.holds Tryz.pinned (OpenSpec.ofChange cacheSmallWrong)

/-- 'chandlerlaw09.CacheOnce': WHATEVER THE INPUT: true; the input reads as it did. -/
def cacheOnceSpec : ChangeSpec := { name := "cacheOnce", fn := fun _ => fun
  | [d] => { results := [.lit (.bool true)], args := [d] }
  | _ => none }
def cacheOnceRow : OpenClaim := { program := "ytbdankpkdhhlmaagreat", sum := "622820eb0c639089256270d0e91c187f3de9d88a903bb0d43dc35153e04d6689", func := "chandler/chandlerlaw09.CacheOnce", spec := "cacheOnce", inPlace := ["internal/bytealg.IndexByteString", "internal/bytealg.IndexString"], unfollowed := true, recurses := true, named := ["internal/bytealg.MaxLen"], apart := false }
def CacheOnceSaid : Prop := cacheOnceRow.holds Tryz.pinned (OpenSpec.ofChange cacheOnceSpec)

/-- ITS FALSE NEIGHBOUR: 'it returns false'. Refute it at one input. -/
def cacheOnceWrong : ChangeSpec := { name := "cacheOnce", fn := fun _ => fun
  | [d] => { results := [.lit (.bool false)], args := [d] }
  | _ => none }
def CacheOnceWrongFalsely : Prop := cacheOnceRow.holds Tryz.pinned (OpenSpec.ofChange cacheOnceWrong)

/-- 'chandlerlaw09.CacheNil': WHATEVER THE INPUT: true; the input reads as it did. -/
def cacheNilSpec : ChangeSpec := { name := "cacheNil", fn := fun _ => fun
  | [] => { results := [.lit (.bool true)], args := [] }
  | _ => none }
def cacheNilRow : OpenClaim := { program := "ytbdankpkdhhlmaagreat", sum := "622820eb0c639089256270d0e91c187f3de9d88a903bb0d43dc35153e04d6689", func := "chandler/chandlerlaw09.CacheNil", spec := "cacheNil", inPlace := ["internal/bytealg.IndexByteString", "internal/bytealg.IndexString"], unfollowed := true, recurses := true, named := ["internal/bytealg.MaxLen"], apart := false }
def CacheNilSaid : Prop := cacheNilRow.holds Tryz.pinned (OpenSpec.ofChange cacheNilSpec)

/-- ITS FALSE NEIGHBOUR: 'it returns false'. Refute it at one input. -/
def cacheNilWrong : ChangeSpec := { name := "cacheNil", fn := fun _ => fun
  | [] => { results := [.lit (.bool false)], args := [] }
  | _ => none }
def CacheNilWrongFalsely : Prop := cacheNilRow.holds Tryz.pinned (OpenSpec.ofChange cacheNilWrong)

/-- 'chandlerlaw09.CacheApart': WHATEVER THE INPUT: true; the input reads as it did. -/
def cacheApartSpec : ChangeSpec := { name := "cacheApart", fn := fun _ => fun
  | [d1, d2, d3] => { results := [.lit (.bool true)], args := [d1, d2, d3] }
  | _ => none }
def cacheApartRow : OpenClaim := { program := "ytbdankpkdhhlmaagreat", sum := "622820eb0c639089256270d0e91c187f3de9d88a903bb0d43dc35153e04d6689", func := "chandler/chandlerlaw09.CacheApart", spec := "cacheApart", inPlace := ["internal/bytealg.IndexByteString", "internal/bytealg.IndexString"], unfollowed := true, recurses := true, named := ["internal/bytealg.MaxLen"], loops := true, apart := false }
def CacheApartSaid : Prop := cacheApartRow.holds Tryz.pinned (OpenSpec.ofChange cacheApartSpec)

/-- ITS FALSE NEIGHBOUR: 'it returns false'. Refute it at one input. -/
def cacheApartWrong : ChangeSpec := { name := "cacheApart", fn := fun _ => fun
  | [d1, d2, d3] => { results := [.lit (.bool false)], args := [d1, d2, d3] }
  | _ => none }
def CacheApartWrongFalsely : Prop := cacheApartRow.holds Tryz.pinned (OpenSpec.ofChange cacheApartWrong)

/-- 'chandlerlaw09.CacheBack': WHATEVER THE INPUT: true; the input reads as it did. -/
def cacheBackSpec : ChangeSpec := { name := "cacheBack", fn := fun _ => fun
  | [d1, d2] => { results := [.lit (.bool true)], args := [d1, d2] }
  | _ => none }
def cacheBackRow : OpenClaim := { program := "ytbdankpkdhhlmaagreat", sum := "622820eb0c639089256270d0e91c187f3de9d88a903bb0d43dc35153e04d6689", func := "chandler/chandlerlaw09.CacheBack", spec := "cacheBack", inPlace := ["internal/bytealg.IndexByteString", "internal/bytealg.IndexString"], unfollowed := true, recurses := true, named := ["internal/bytealg.MaxLen"], loops := true, apart := false }
def CacheBackSaid : Prop := cacheBackRow.holds Tryz.pinned (OpenSpec.ofChange cacheBackSpec)

/-- ITS FALSE NEIGHBOUR: 'it returns false'. Refute it at one input. -/
def cacheBackWrong : ChangeSpec := { name := "cacheBack", fn := fun _ => fun
  | [d1, d2] => { results := [.lit (.bool false)], args := [d1, d2] }
  | _ => none }
def CacheBackWrongFalsely : Prop := cacheBackRow.holds Tryz.pinned (OpenSpec.ofChange cacheBackWrong)

/- THE SECOND FORM. 'bulk': how many values and letters a reading holds, each counted each time it is reached (what is shared counts as often as it is met; a slice's spare places count too). A statement '..UptoSaid' is the law's where the arguments, and the package variables that the reading takes, are together of bulk at most 1048576: NARROWER than '..Said'. Prove '..Said' where nothing that the law and all that it calls make is longer than what came in: it says more and counts as full. Else prove '..UptoSaid'. A law counts once. -/
mutual
def uptoBulk {H : Type} : DataW H → Nat
  | .lit (.string bytes) => bytes.length + 1
  | .lit _ => 1
  | .nil => 1
  | .ptr d => uptoBulk d + 1
  | .slice elems spare => uptoBulkAll elems + uptoBulkAll spare + 1
  | .agg parts => uptoBulkAll parts + 1
  | .iface _ d => uptoBulk d + 1
  | .map entries => uptoBulkEntries entries + 1
  | .held _ => 1
def uptoBulkAll {H : Type} : List (DataW H) → Nat
  | [] => 0
  | d :: r => uptoBulk d + uptoBulkAll r
def uptoBulkEntries {H : Type} : List (Lit × DataW H) → Nat
  | [] => 0
  | x :: r => uptoBulkEntry x + uptoBulkEntries r
def uptoBulkEntry {H : Type} : Lit × DataW H → Nat
  | (.string bytes, d) => bytes.length + uptoBulk d + 1
  | (_, d) => uptoBulk d + 1
 end
def uptoSmall : (H : Type) → List (DataW H) → Bool := fun _ ds => decide (uptoBulkAll ds ≤ 1048576)
def OpenSpec.upto (s : _root_.Go.ChangeSpec) : _root_.Go.OpenSpec := { _root_.Go.OpenSpec.ofChange s with cond := some uptoSmall }

/-- 'chandlerlaw09.CacheNames', WHERE WHAT IT READS IS OF BULK AT MOST 1048576: true; the input reads as it did. -/
def cacheNamesUptoRow : OpenClaim := { program := "ytbdankpkdhhlmaagreat", sum := "622820eb0c639089256270d0e91c187f3de9d88a903bb0d43dc35153e04d6689", func := "chandler/chandlerlaw09.CacheNames", spec := "cacheNames", inPlace := ["internal/bytealg.IndexByteString", "internal/bytealg.IndexString"], unfollowed := true, recurses := true, named := ["internal/bytealg.MaxLen"], apart := false, narrowed := true }
def CacheNamesUptoSaid : Prop := cacheNamesUptoRow.holds Tryz.pinned (OpenSpec.upto cacheNamesSpec)

/-- 'chandlerlaw09.CacheReads', WHERE WHAT IT READS IS OF BULK AT MOST 1048576: true; the input reads as it did. -/
def cacheReadsUptoRow : OpenClaim := { program := "ytbdankpkdhhlmaagreat", sum := "622820eb0c639089256270d0e91c187f3de9d88a903bb0d43dc35153e04d6689", func := "chandler/chandlerlaw09.CacheReads", spec := "cacheReads", inPlace := ["internal/bytealg.IndexByteString", "internal/bytealg.IndexString"], unfollowed := true, recurses := true, named := ["internal/bytealg.MaxLen"], apart := false, narrowed := true }
def CacheReadsUptoSaid : Prop := cacheReadsUptoRow.holds Tryz.pinned (OpenSpec.upto cacheReadsSpec)

/-- 'chandlerlaw09.CacheSmall', WHERE WHAT IT READS IS OF BULK AT MOST 1048576: true; the input reads as it did. -/
def cacheSmallUptoRow : OpenClaim := { program := "ytbdankpkdhhlmaagreat", sum := "622820eb0c639089256270d0e91c187f3de9d88a903bb0d43dc35153e04d6689", func := "chandler/chandlerlaw09.CacheSmall", spec := "cacheSmall", inPlace := ["internal/bytealg.IndexByteString", "internal/bytealg.IndexString"], unfollowed := true, recurses := true, named := ["internal/bytealg.MaxLen"], loops := true, apart := false, narrowed := true }
def CacheSmallUptoSaid : Prop := cacheSmallUptoRow.holds Tryz.pinned (OpenSpec.upto cacheSmallSpec)

/-- 'chandlerlaw09.CacheOnce', WHERE WHAT IT READS IS OF BULK AT MOST 1048576: true; the input reads as it did. -/
def cacheOnceUptoRow : OpenClaim := { program := "ytbdankpkdhhlmaagreat", sum := "622820eb0c639089256270d0e91c187f3de9d88a903bb0d43dc35153e04d6689", func := "chandler/chandlerlaw09.CacheOnce", spec := "cacheOnce", inPlace := ["internal/bytealg.IndexByteString", "internal/bytealg.IndexString"], unfollowed := true, recurses := true, named := ["internal/bytealg.MaxLen"], apart := false, narrowed := true }
def CacheOnceUptoSaid : Prop := cacheOnceUptoRow.holds Tryz.pinned (OpenSpec.upto cacheOnceSpec)

/-- 'chandlerlaw09.CacheNil', WHERE WHAT IT READS IS OF BULK AT MOST 1048576: true; the input reads as it did. -/
def cacheNilUptoRow : OpenClaim := { program := "ytbdankpkdhhlmaagreat", sum := "622820eb0c639089256270d0e91c187f3de9d88a903bb0d43dc35153e04d6689", func := "chandler/chandlerlaw09.CacheNil", spec := "cacheNil", inPlace := ["internal/bytealg.IndexByteString", "internal/bytealg.IndexString"], unfollowed := true, recurses := true, named := ["internal/bytealg.MaxLen"], apart := false, narrowed := true }
def CacheNilUptoSaid : Prop := cacheNilUptoRow.holds Tryz.pinned (OpenSpec.upto cacheNilSpec)

/-- 'chandlerlaw09.CacheApart', WHERE WHAT IT READS IS OF BULK AT MOST 1048576: true; the input reads as it did. -/
def cacheApartUptoRow : OpenClaim := { program := "ytbdankpkdhhlmaagreat", sum := "622820eb0c639089256270d0e91c187f3de9d88a903bb0d43dc35153e04d6689", func := "chandler/chandlerlaw09.CacheApart", spec := "cacheApart", inPlace := ["internal/bytealg.IndexByteString", "internal/bytealg.IndexString"], unfollowed := true, recurses := true, named := ["internal/bytealg.MaxLen"], loops := true, apart := false, narrowed := true }
def CacheApartUptoSaid : Prop := cacheApartUptoRow.holds Tryz.pinned (OpenSpec.upto cacheApartSpec)

/-- 'chandlerlaw09.CacheBack', WHERE WHAT IT READS IS OF BULK AT MOST 1048576: true; the input reads as it did. -/
def cacheBackUptoRow : OpenClaim := { program := "ytbdankpkdhhlmaagreat", sum := "622820eb0c639089256270d0e91c187f3de9d88a903bb0d43dc35153e04d6689", func := "chandler/chandlerlaw09.CacheBack", spec := "cacheBack", inPlace := ["internal/bytealg.IndexByteString", "internal/bytealg.IndexString"], unfollowed := true, recurses := true, named := ["internal/bytealg.MaxLen"], loops := true, apart := false, narrowed := true }
def CacheBackUptoSaid : Prop := cacheBackUptoRow.holds Tryz.pinned (OpenSpec.upto cacheBackSpec)

end Rows
end Go.Proofs.YtbdankpkdhhlmaaGreat
