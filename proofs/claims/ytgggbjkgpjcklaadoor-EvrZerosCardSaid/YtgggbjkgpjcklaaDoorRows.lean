/-
  NARROWER THAN 'FOR EVERY INPUT', by the rows' own cells (each row's printed sentence says how): EvrNames: laid · EvrParses: laid · EvrCompares: laid · EvrMeets: laid · EvrOrder: laid · EvrJoins: laid · EvrSpans: laid · EvrZeros: laid.
  DERIVED. THE GIVEN ROWS OF THIS SEAT. 8 by the template 'for every input the law returns true; each argument reads behind the call as it read before'; 0 by the template 'total and deterministic' (their statements: YtgggbjkgpjcklaaDoorTotals.lean).
  GIVEN WITH THE SEED: the statements are not yours to turn. If you find one false, say at which input.
  Laid BY PROGRAM, IN A SANDBOX (cutbox-rows.mjs): the forced cells as the released guide's own fill.sh prints them over the translation 328fe5238c937888… (all of the seat's roots in one cut). By AI agents, Wed Nov 11 2026. No macro, syntax, notation, axiom, sorry.
-/
import Derived.Test.YtgggbjkgpjcklaaDoorChecked
import GoSem.PinnedTables
import GoSem.Claim
import GoSem.ClaimJoined
import GoSem.ClaimMapViews
import Derived.JoinedTies
import Derived.KernelRfl
namespace Go.Proofs.YtgggbjkgpjcklaaDoor
/- THE CELL 'sum', in the pinned program and in every row, IS THE sha256 OF THE DUMP (.gsa) THAT YtgggbjkgpjcklaaDoorProg.lean LOADS. Nothing in Lean hashes anything: it is a label: what it is worth is what the hold of that sum in a sandbox is worth. -/
noncomputable def Tryd.pinned : Pinned := { name := "ytgggbjkgpjcklaadoor", sum := "328fe5238c93788876b49275fba455445c99ff72105c5e99f2d3f00645b14e2b", checked := Tryd.checked }
namespace Rows
def none {H : Type} : Left H := { results := [], args := [] }

/- WHAT THE LISTED PACKAGE-LEVEL VARIABLES READ AS WHEN THE CALL BEGINS. Each datum BY PROGRAM (the guide's laid-datum.mjs) off the statement by which the dump's own 'gosem.cut.vars' lays the variable. In a bare row this is a premise. The card (YtgggbjkgpjcklaaDoorCards.lean) ties it to the program's text. -/
def laid_unicode_utf8_acceptRanges {H : Type} : DataW H := .agg [.agg [.lit (.int .u8 128), .lit (.int .u8 191)], .agg [.lit (.int .u8 160), .lit (.int .u8 191)], .agg [.lit (.int .u8 128), .lit (.int .u8 159)], .agg [.lit (.int .u8 144), .lit (.int .u8 191)], .agg [.lit (.int .u8 128), .lit (.int .u8 143)], .agg [.lit (.int .u8 0), .lit (.int .u8 0)], .agg [.lit (.int .u8 0), .lit (.int .u8 0)], .agg [.lit (.int .u8 0), .lit (.int .u8 0)], .agg [.lit (.int .u8 0), .lit (.int .u8 0)], .agg [.lit (.int .u8 0), .lit (.int .u8 0)], .agg [.lit (.int .u8 0), .lit (.int .u8 0)], .agg [.lit (.int .u8 0), .lit (.int .u8 0)], .agg [.lit (.int .u8 0), .lit (.int .u8 0)], .agg [.lit (.int .u8 0), .lit (.int .u8 0)], .agg [.lit (.int .u8 0), .lit (.int .u8 0)], .agg [.lit (.int .u8 0), .lit (.int .u8 0)]]
/-- One of Go's own tables, pinned by name: the form's constant. -/
def laid_unicode_utf8_first : DataW Unit := Go.Pinned.utf8First
def laid_math_bits_deBruijn32tab {H : Type} : DataW H := .agg [.lit (.int .u8 0), .lit (.int .u8 1), .lit (.int .u8 28), .lit (.int .u8 2), .lit (.int .u8 29), .lit (.int .u8 14), .lit (.int .u8 24), .lit (.int .u8 3), .lit (.int .u8 30), .lit (.int .u8 22), .lit (.int .u8 20), .lit (.int .u8 15), .lit (.int .u8 25), .lit (.int .u8 17), .lit (.int .u8 4), .lit (.int .u8 8), .lit (.int .u8 31), .lit (.int .u8 27), .lit (.int .u8 13), .lit (.int .u8 23), .lit (.int .u8 21), .lit (.int .u8 19), .lit (.int .u8 16), .lit (.int .u8 7), .lit (.int .u8 26), .lit (.int .u8 12), .lit (.int .u8 18), .lit (.int .u8 6), .lit (.int .u8 11), .lit (.int .u8 5), .lit (.int .u8 10), .lit (.int .u8 9)]
def laid_math_bits_deBruijn64tab {H : Type} : DataW H := .agg [.lit (.int .u8 0), .lit (.int .u8 1), .lit (.int .u8 56), .lit (.int .u8 2), .lit (.int .u8 57), .lit (.int .u8 49), .lit (.int .u8 28), .lit (.int .u8 3), .lit (.int .u8 61), .lit (.int .u8 58), .lit (.int .u8 42), .lit (.int .u8 50), .lit (.int .u8 38), .lit (.int .u8 29), .lit (.int .u8 17), .lit (.int .u8 4), .lit (.int .u8 62), .lit (.int .u8 47), .lit (.int .u8 59), .lit (.int .u8 36), .lit (.int .u8 45), .lit (.int .u8 43), .lit (.int .u8 51), .lit (.int .u8 22), .lit (.int .u8 53), .lit (.int .u8 39), .lit (.int .u8 33), .lit (.int .u8 30), .lit (.int .u8 24), .lit (.int .u8 18), .lit (.int .u8 12), .lit (.int .u8 5), .lit (.int .u8 63), .lit (.int .u8 55), .lit (.int .u8 48), .lit (.int .u8 27), .lit (.int .u8 60), .lit (.int .u8 41), .lit (.int .u8 37), .lit (.int .u8 16), .lit (.int .u8 46), .lit (.int .u8 35), .lit (.int .u8 44), .lit (.int .u8 21), .lit (.int .u8 52), .lit (.int .u8 32), .lit (.int .u8 23), .lit (.int .u8 11), .lit (.int .u8 54), .lit (.int .u8 26), .lit (.int .u8 40), .lit (.int .u8 15), .lit (.int .u8 34), .lit (.int .u8 20), .lit (.int .u8 31), .lit (.int .u8 10), .lit (.int .u8 25), .lit (.int .u8 14), .lit (.int .u8 19), .lit (.int .u8 9), .lit (.int .u8 13), .lit (.int .u8 8), .lit (.int .u8 7), .lit (.int .u8 6)]
def laid_internal_strconv_uint64pow10 {H : Type} : DataW H := .agg [.lit (.int .u64 1), .lit (.int .u64 10), .lit (.int .u64 100), .lit (.int .u64 1000), .lit (.int .u64 10000), .lit (.int .u64 100000), .lit (.int .u64 1000000), .lit (.int .u64 10000000), .lit (.int .u64 100000000), .lit (.int .u64 1000000000), .lit (.int .u64 10000000000), .lit (.int .u64 100000000000), .lit (.int .u64 1000000000000), .lit (.int .u64 10000000000000), .lit (.int .u64 100000000000000), .lit (.int .u64 1000000000000000), .lit (.int .u64 10000000000000000), .lit (.int .u64 100000000000000000), .lit (.int .u64 1000000000000000000), .lit (.int .u64 10000000000000000000)]

/-- 'chandlerlaw03.EvrNames': WHATEVER THE INPUT: true; the input reads as it did. -/
def evrNamesSpec : ChangeSpec := { name := "evrNames", fn := fun _ => fun
  | [] => { results := [.lit (.bool true)], args := [] }
  | _ => none }
def evrNamesRow : OpenClaim := { program := "ytgggbjkgpjcklaadoor", sum := "328fe5238c93788876b49275fba455445c99ff72105c5e99f2d3f00645b14e2b", func := "chandler/chandlerlaw03.EvrNames", spec := "evrNames", inPlace := ["internal/bytealg.IndexByteString", "internal/bytealg.IndexString", "internal/bytealg.abigen_runtime_cmpstring"], unfollowed := true, recurses := true, named := ["internal/bytealg.MaxLen", "unicode/utf8.first", "unicode/utf8.acceptRanges"], apart := false, laid := [("unicode/utf8.acceptRanges", laid_unicode_utf8_acceptRanges), ("unicode/utf8.first", laid_unicode_utf8_first)] }
def EvrNamesSaid : Prop := evrNamesRow.holds Tryd.pinned (OpenSpec.ofChange evrNamesSpec)

/-- ITS FALSE NEIGHBOUR: 'it returns false'. Refute it at one input. -/
def evrNamesWrong : ChangeSpec := { name := "evrNames", fn := fun _ => fun
  | [] => { results := [.lit (.bool false)], args := [] }
  | _ => none }
def EvrNamesWrongFalsely : Prop := evrNamesRow.holds Tryd.pinned (OpenSpec.ofChange evrNamesWrong)

/-- 'chandlerlaw03.EvrParses': WHATEVER THE INPUT: true; the input reads as it did. -/
def evrParsesSpec : ChangeSpec := { name := "evrParses", fn := fun _ => fun
  | [d] => { results := [.lit (.bool true)], args := [d] }
  | _ => none }
def evrParsesRow : OpenClaim := { program := "ytgggbjkgpjcklaadoor", sum := "328fe5238c93788876b49275fba455445c99ff72105c5e99f2d3f00645b14e2b", func := "chandler/chandlerlaw03.EvrParses", spec := "evrParses", inPlace := ["internal/bytealg.IndexByteString", "internal/bytealg.IndexString", "internal/bytealg.abigen_runtime_cmpstring"], unfollowed := true, recurses := true, named := ["internal/bytealg.MaxLen", "unicode/utf8.first", "unicode/utf8.acceptRanges"], apart := false, laid := [("unicode/utf8.acceptRanges", laid_unicode_utf8_acceptRanges), ("unicode/utf8.first", laid_unicode_utf8_first)] }
def EvrParsesSaid : Prop := evrParsesRow.holds Tryd.pinned (OpenSpec.ofChange evrParsesSpec)

/-- ITS FALSE NEIGHBOUR: 'it returns false'. Refute it at one input. -/
def evrParsesWrong : ChangeSpec := { name := "evrParses", fn := fun _ => fun
  | [d] => { results := [.lit (.bool false)], args := [d] }
  | _ => none }
def EvrParsesWrongFalsely : Prop := evrParsesRow.holds Tryd.pinned (OpenSpec.ofChange evrParsesWrong)

/-- 'chandlerlaw03.EvrCompares': WHATEVER THE INPUT: true; the input reads as it did. -/
def evrComparesSpec : ChangeSpec := { name := "evrCompares", fn := fun _ => fun
  | [d1, d2, d3] => { results := [.lit (.bool true)], args := [d1, d2, d3] }
  | _ => none }
def evrComparesRow : OpenClaim := { program := "ytgggbjkgpjcklaadoor", sum := "328fe5238c93788876b49275fba455445c99ff72105c5e99f2d3f00645b14e2b", func := "chandler/chandlerlaw03.EvrCompares", spec := "evrCompares", inPlace := ["internal/bytealg.IndexByteString", "internal/bytealg.IndexString", "internal/bytealg.abigen_runtime_cmpstring"], unfollowed := true, recurses := true, named := ["internal/bytealg.MaxLen", "unicode/utf8.first", "unicode/utf8.acceptRanges"], apart := false, laid := [("unicode/utf8.acceptRanges", laid_unicode_utf8_acceptRanges), ("unicode/utf8.first", laid_unicode_utf8_first)] }
def EvrComparesSaid : Prop := evrComparesRow.holds Tryd.pinned (OpenSpec.ofChange evrComparesSpec)

/-- ITS FALSE NEIGHBOUR: 'it returns false'. Refute it at one input. -/
def evrComparesWrong : ChangeSpec := { name := "evrCompares", fn := fun _ => fun
  | [d1, d2, d3] => { results := [.lit (.bool false)], args := [d1, d2, d3] }
  | _ => none }
def EvrComparesWrongFalsely : Prop := evrComparesRow.holds Tryd.pinned (OpenSpec.ofChange evrComparesWrong)

/-- 'chandlerlaw03.EvrMeets': WHATEVER THE INPUT: true; the input reads as it did. -/
def evrMeetsSpec : ChangeSpec := { name := "evrMeets", fn := fun _ => fun
  | [d1, d2, d3, d4, d5] => { results := [.lit (.bool true)], args := [d1, d2, d3, d4, d5] }
  | _ => none }
def evrMeetsRow : OpenClaim := { program := "ytgggbjkgpjcklaadoor", sum := "328fe5238c93788876b49275fba455445c99ff72105c5e99f2d3f00645b14e2b", func := "chandler/chandlerlaw03.EvrMeets", spec := "evrMeets", inPlace := ["internal/bytealg.IndexByteString", "internal/bytealg.IndexString", "internal/bytealg.abigen_runtime_cmpstring"], unfollowed := true, recurses := true, named := ["internal/bytealg.MaxLen", "unicode/utf8.first", "unicode/utf8.acceptRanges"], apart := false, laid := [("unicode/utf8.acceptRanges", laid_unicode_utf8_acceptRanges), ("unicode/utf8.first", laid_unicode_utf8_first)] }
def EvrMeetsSaid : Prop := evrMeetsRow.holds Tryd.pinned (OpenSpec.ofChange evrMeetsSpec)

/-- ITS FALSE NEIGHBOUR: 'it returns false'. Refute it at one input. -/
def evrMeetsWrong : ChangeSpec := { name := "evrMeets", fn := fun _ => fun
  | [d1, d2, d3, d4, d5] => { results := [.lit (.bool false)], args := [d1, d2, d3, d4, d5] }
  | _ => none }
def EvrMeetsWrongFalsely : Prop := evrMeetsRow.holds Tryd.pinned (OpenSpec.ofChange evrMeetsWrong)

/-- 'chandlerlaw03.EvrOrder': WHATEVER THE INPUT: true; the input reads as it did. -/
def evrOrderSpec : ChangeSpec := { name := "evrOrder", fn := fun _ => fun
  | [d1, d2, d3, d4] => { results := [.lit (.bool true)], args := [d1, d2, d3, d4] }
  | _ => none }
def evrOrderRow : OpenClaim := { program := "ytgggbjkgpjcklaadoor", sum := "328fe5238c93788876b49275fba455445c99ff72105c5e99f2d3f00645b14e2b", func := "chandler/chandlerlaw03.EvrOrder", spec := "evrOrder", inPlace := ["internal/bytealg.IndexByteString", "internal/bytealg.IndexString", "internal/bytealg.abigen_runtime_cmpstring"], unfollowed := true, recurses := true, named := ["internal/bytealg.MaxLen", "unicode/utf8.first", "unicode/utf8.acceptRanges"], apart := false, laid := [("unicode/utf8.acceptRanges", laid_unicode_utf8_acceptRanges), ("unicode/utf8.first", laid_unicode_utf8_first)] }
def EvrOrderSaid : Prop := evrOrderRow.holds Tryd.pinned (OpenSpec.ofChange evrOrderSpec)

/-- ITS FALSE NEIGHBOUR: 'it returns false'. Refute it at one input. -/
def evrOrderWrong : ChangeSpec := { name := "evrOrder", fn := fun _ => fun
  | [d1, d2, d3, d4] => { results := [.lit (.bool false)], args := [d1, d2, d3, d4] }
  | _ => none }
def EvrOrderWrongFalsely : Prop := evrOrderRow.holds Tryd.pinned (OpenSpec.ofChange evrOrderWrong)

/-- 'chandlerlaw03.EvrJoins': WHATEVER THE INPUT: true; the input reads as it did. -/
def evrJoinsSpec : ChangeSpec := { name := "evrJoins", fn := fun _ => fun
  | [d1, d2] => { results := [.lit (.bool true)], args := [d1, d2] }
  | _ => none }
def evrJoinsRow : OpenClaim := { program := "ytgggbjkgpjcklaadoor", sum := "328fe5238c93788876b49275fba455445c99ff72105c5e99f2d3f00645b14e2b", func := "chandler/chandlerlaw03.EvrJoins", spec := "evrJoins", inPlace := ["internal/bytealg.IndexByteString", "internal/bytealg.IndexString", "internal/bytealg.abigen_runtime_cmpstring"], unfollowed := true, recurses := true, named := ["internal/bytealg.MaxLen", "unicode/utf8.first", "unicode/utf8.acceptRanges"], apart := false, laid := [("unicode/utf8.acceptRanges", laid_unicode_utf8_acceptRanges), ("unicode/utf8.first", laid_unicode_utf8_first)] }
def EvrJoinsSaid : Prop := evrJoinsRow.holds Tryd.pinned (OpenSpec.ofChange evrJoinsSpec)

/-- ITS FALSE NEIGHBOUR: 'it returns false'. Refute it at one input. -/
def evrJoinsWrong : ChangeSpec := { name := "evrJoins", fn := fun _ => fun
  | [d1, d2] => { results := [.lit (.bool false)], args := [d1, d2] }
  | _ => none }
def EvrJoinsWrongFalsely : Prop := evrJoinsRow.holds Tryd.pinned (OpenSpec.ofChange evrJoinsWrong)

/-- 'chandlerlaw03.EvrSpans': WHATEVER THE INPUT: true; the input reads as it did. -/
def evrSpansSpec : ChangeSpec := { name := "evrSpans", fn := fun _ => fun
  | [d1, d2, d3] => { results := [.lit (.bool true)], args := [d1, d2, d3] }
  | _ => none }
def evrSpansRow : OpenClaim := { program := "ytgggbjkgpjcklaadoor", sum := "328fe5238c93788876b49275fba455445c99ff72105c5e99f2d3f00645b14e2b", func := "chandler/chandlerlaw03.EvrSpans", spec := "evrSpans", inPlace := ["internal/bytealg.IndexByteString", "internal/bytealg.IndexString", "internal/bytealg.abigen_runtime_cmpstring"], unfollowed := true, recurses := true, named := ["internal/bytealg.MaxLen", "unicode/utf8.first", "unicode/utf8.acceptRanges"], apart := false, laid := [("unicode/utf8.acceptRanges", laid_unicode_utf8_acceptRanges), ("unicode/utf8.first", laid_unicode_utf8_first)] }
def EvrSpansSaid : Prop := evrSpansRow.holds Tryd.pinned (OpenSpec.ofChange evrSpansSpec)

/-- ITS FALSE NEIGHBOUR: 'it returns false'. Refute it at one input. -/
def evrSpansWrong : ChangeSpec := { name := "evrSpans", fn := fun _ => fun
  | [d1, d2, d3] => { results := [.lit (.bool false)], args := [d1, d2, d3] }
  | _ => none }
def EvrSpansWrongFalsely : Prop := evrSpansRow.holds Tryd.pinned (OpenSpec.ofChange evrSpansWrong)

/-- 'chandlerlaw03.EvrZeros': WHATEVER THE INPUT: true; the input reads as it did. -/
def evrZerosSpec : ChangeSpec := { name := "evrZeros", fn := fun _ => fun
  | [d1, d2, d3, d4] => { results := [.lit (.bool true)], args := [d1, d2, d3, d4] }
  | _ => none }
def evrZerosRow : OpenClaim := { program := "ytgggbjkgpjcklaadoor", sum := "328fe5238c93788876b49275fba455445c99ff72105c5e99f2d3f00645b14e2b", func := "chandler/chandlerlaw03.EvrZeros", spec := "evrZeros", inPlace := ["internal/bytealg.IndexByteString", "internal/bytealg.IndexString", "internal/bytealg.abigen_runtime_cmpstring"], unfollowed := true, recurses := true, named := ["internal/bytealg.MaxLen", "unicode/utf8.first", "unicode/utf8.acceptRanges", "internal/strconv.uint64pow10", "math/bits.deBruijn32tab", "math/bits.deBruijn64tab"], apart := false, laid := [("math/bits.deBruijn32tab", laid_math_bits_deBruijn32tab), ("math/bits.deBruijn64tab", laid_math_bits_deBruijn64tab), ("internal/strconv.uint64pow10", laid_internal_strconv_uint64pow10), ("unicode/utf8.acceptRanges", laid_unicode_utf8_acceptRanges), ("unicode/utf8.first", laid_unicode_utf8_first)] }
def EvrZerosSaid : Prop := evrZerosRow.holds Tryd.pinned (OpenSpec.ofChange evrZerosSpec)

/-- ITS FALSE NEIGHBOUR: 'it returns false'. Refute it at one input. -/
def evrZerosWrong : ChangeSpec := { name := "evrZeros", fn := fun _ => fun
  | [d1, d2, d3, d4] => { results := [.lit (.bool false)], args := [d1, d2, d3, d4] }
  | _ => none }
def EvrZerosWrongFalsely : Prop := evrZerosRow.holds Tryd.pinned (OpenSpec.ofChange evrZerosWrong)

/- THE SECOND FORM. 'bulk': how many values and letters a reading holds, each counted each time it is reached (what is shared counts as often as it is met; a slice's spare places count too). A statement '..UptoSaid' is the law's where the arguments, and the package variables that the reading takes, are together of bulk at most 1048576: NARROWER than '..Said'. Prove '..Said' where nothing that the law and all that it calls make is longer than what came in: it says more and counts as full. Else prove '..UptoSaid'. A law counts once. -/
mutual
def uptoBulk {H : Type} : DataW H → Nat
  | .lit (.string bytes) => bytes.length + 1
  | .lit _ => 1
  | .nil => 1
  | .ptr d => uptoBulk d + 1
  | .slice elems spare => uptoBulkAll elems + uptoBulkAll spare + 1
  | .agg parts => uptoBulkAll parts + 1
  | .iface _ d => uptoBulk d + 1
  | .map entries => uptoBulkEntries entries + 1
  | .held _ => 1
def uptoBulkAll {H : Type} : List (DataW H) → Nat
  | [] => 0
  | d :: r => uptoBulk d + uptoBulkAll r
def uptoBulkEntries {H : Type} : List (Lit × DataW H) → Nat
  | [] => 0
  | x :: r => uptoBulkEntry x + uptoBulkEntries r
def uptoBulkEntry {H : Type} : Lit × DataW H → Nat
  | (.string bytes, d) => bytes.length + uptoBulk d + 1
  | (_, d) => uptoBulk d + 1
 end
def uptoSmall : (H : Type) → List (DataW H) → Bool := fun _ ds => decide (uptoBulkAll ds ≤ 1048576)
def OpenSpec.upto (s : _root_.Go.ChangeSpec) : _root_.Go.OpenSpec := { _root_.Go.OpenSpec.ofChange s with cond := some uptoSmall }

/-- 'chandlerlaw03.EvrNames', WHERE WHAT IT READS IS OF BULK AT MOST 1048576: true; the input reads as it did. -/
def evrNamesUptoRow : OpenClaim := { program := "ytgggbjkgpjcklaadoor", sum := "328fe5238c93788876b49275fba455445c99ff72105c5e99f2d3f00645b14e2b", func := "chandler/chandlerlaw03.EvrNames", spec := "evrNames", inPlace := ["internal/bytealg.IndexByteString", "internal/bytealg.IndexString", "internal/bytealg.abigen_runtime_cmpstring"], unfollowed := true, recurses := true, named := ["internal/bytealg.MaxLen", "unicode/utf8.first", "unicode/utf8.acceptRanges"], apart := false, laid := [("unicode/utf8.acceptRanges", laid_unicode_utf8_acceptRanges), ("unicode/utf8.first", laid_unicode_utf8_first)], narrowed := true }
def EvrNamesUptoSaid : Prop := evrNamesUptoRow.holds Tryd.pinned (OpenSpec.upto evrNamesSpec)

/-- 'chandlerlaw03.EvrParses', WHERE WHAT IT READS IS OF BULK AT MOST 1048576: true; the input reads as it did. -/
def evrParsesUptoRow : OpenClaim := { program := "ytgggbjkgpjcklaadoor", sum := "328fe5238c93788876b49275fba455445c99ff72105c5e99f2d3f00645b14e2b", func := "chandler/chandlerlaw03.EvrParses", spec := "evrParses", inPlace := ["internal/bytealg.IndexByteString", "internal/bytealg.IndexString", "internal/bytealg.abigen_runtime_cmpstring"], unfollowed := true, recurses := true, named := ["internal/bytealg.MaxLen", "unicode/utf8.first", "unicode/utf8.acceptRanges"], apart := false, laid := [("unicode/utf8.acceptRanges", laid_unicode_utf8_acceptRanges), ("unicode/utf8.first", laid_unicode_utf8_first)], narrowed := true }
def EvrParsesUptoSaid : Prop := evrParsesUptoRow.holds Tryd.pinned (OpenSpec.upto evrParsesSpec)

/-- 'chandlerlaw03.EvrCompares', WHERE WHAT IT READS IS OF BULK AT MOST 1048576: true; the input reads as it did. -/
def evrComparesUptoRow : OpenClaim := { program := "ytgggbjkgpjcklaadoor", sum := "328fe5238c93788876b49275fba455445c99ff72105c5e99f2d3f00645b14e2b", func := "chandler/chandlerlaw03.EvrCompares", spec := "evrCompares", inPlace := ["internal/bytealg.IndexByteString", "internal/bytealg.IndexString", "internal/bytealg.abigen_runtime_cmpstring"], unfollowed := true, recurses := true, named := ["internal/bytealg.MaxLen", "unicode/utf8.first", "unicode/utf8.acceptRanges"], apart := false, laid := [("unicode/utf8.acceptRanges", laid_unicode_utf8_acceptRanges), ("unicode/utf8.first", laid_unicode_utf8_first)], narrowed := true }
def EvrComparesUptoSaid : Prop := evrComparesUptoRow.holds Tryd.pinned (OpenSpec.upto evrComparesSpec)

/-- 'chandlerlaw03.EvrMeets', WHERE WHAT IT READS IS OF BULK AT MOST 1048576: true; the input reads as it did. -/
def evrMeetsUptoRow : OpenClaim := { program := "ytgggbjkgpjcklaadoor", sum := "328fe5238c93788876b49275fba455445c99ff72105c5e99f2d3f00645b14e2b", func := "chandler/chandlerlaw03.EvrMeets", spec := "evrMeets", inPlace := ["internal/bytealg.IndexByteString", "internal/bytealg.IndexString", "internal/bytealg.abigen_runtime_cmpstring"], unfollowed := true, recurses := true, named := ["internal/bytealg.MaxLen", "unicode/utf8.first", "unicode/utf8.acceptRanges"], apart := false, laid := [("unicode/utf8.acceptRanges", laid_unicode_utf8_acceptRanges), ("unicode/utf8.first", laid_unicode_utf8_first)], narrowed := true }
def EvrMeetsUptoSaid : Prop := evrMeetsUptoRow.holds Tryd.pinned (OpenSpec.upto evrMeetsSpec)

/-- 'chandlerlaw03.EvrOrder', WHERE WHAT IT READS IS OF BULK AT MOST 1048576: true; the input reads as it did. -/
def evrOrderUptoRow : OpenClaim := { program := "ytgggbjkgpjcklaadoor", sum := "328fe5238c93788876b49275fba455445c99ff72105c5e99f2d3f00645b14e2b", func := "chandler/chandlerlaw03.EvrOrder", spec := "evrOrder", inPlace := ["internal/bytealg.IndexByteString", "internal/bytealg.IndexString", "internal/bytealg.abigen_runtime_cmpstring"], unfollowed := true, recurses := true, named := ["internal/bytealg.MaxLen", "unicode/utf8.first", "unicode/utf8.acceptRanges"], apart := false, laid := [("unicode/utf8.acceptRanges", laid_unicode_utf8_acceptRanges), ("unicode/utf8.first", laid_unicode_utf8_first)], narrowed := true }
def EvrOrderUptoSaid : Prop := evrOrderUptoRow.holds Tryd.pinned (OpenSpec.upto evrOrderSpec)

/-- 'chandlerlaw03.EvrJoins', WHERE WHAT IT READS IS OF BULK AT MOST 1048576: true; the input reads as it did. -/
def evrJoinsUptoRow : OpenClaim := { program := "ytgggbjkgpjcklaadoor", sum := "328fe5238c93788876b49275fba455445c99ff72105c5e99f2d3f00645b14e2b", func := "chandler/chandlerlaw03.EvrJoins", spec := "evrJoins", inPlace := ["internal/bytealg.IndexByteString", "internal/bytealg.IndexString", "internal/bytealg.abigen_runtime_cmpstring"], unfollowed := true, recurses := true, named := ["internal/bytealg.MaxLen", "unicode/utf8.first", "unicode/utf8.acceptRanges"], apart := false, laid := [("unicode/utf8.acceptRanges", laid_unicode_utf8_acceptRanges), ("unicode/utf8.first", laid_unicode_utf8_first)], narrowed := true }
def EvrJoinsUptoSaid : Prop := evrJoinsUptoRow.holds Tryd.pinned (OpenSpec.upto evrJoinsSpec)

/-- 'chandlerlaw03.EvrSpans', WHERE WHAT IT READS IS OF BULK AT MOST 1048576: true; the input reads as it did. -/
def evrSpansUptoRow : OpenClaim := { program := "ytgggbjkgpjcklaadoor", sum := "328fe5238c93788876b49275fba455445c99ff72105c5e99f2d3f00645b14e2b", func := "chandler/chandlerlaw03.EvrSpans", spec := "evrSpans", inPlace := ["internal/bytealg.IndexByteString", "internal/bytealg.IndexString", "internal/bytealg.abigen_runtime_cmpstring"], unfollowed := true, recurses := true, named := ["internal/bytealg.MaxLen", "unicode/utf8.first", "unicode/utf8.acceptRanges"], apart := false, laid := [("unicode/utf8.acceptRanges", laid_unicode_utf8_acceptRanges), ("unicode/utf8.first", laid_unicode_utf8_first)], narrowed := true }
def EvrSpansUptoSaid : Prop := evrSpansUptoRow.holds Tryd.pinned (OpenSpec.upto evrSpansSpec)

/-- 'chandlerlaw03.EvrZeros', WHERE WHAT IT READS IS OF BULK AT MOST 1048576: true; the input reads as it did. -/
def evrZerosUptoRow : OpenClaim := { program := "ytgggbjkgpjcklaadoor", sum := "328fe5238c93788876b49275fba455445c99ff72105c5e99f2d3f00645b14e2b", func := "chandler/chandlerlaw03.EvrZeros", spec := "evrZeros", inPlace := ["internal/bytealg.IndexByteString", "internal/bytealg.IndexString", "internal/bytealg.abigen_runtime_cmpstring"], unfollowed := true, recurses := true, named := ["internal/bytealg.MaxLen", "unicode/utf8.first", "unicode/utf8.acceptRanges", "internal/strconv.uint64pow10", "math/bits.deBruijn32tab", "math/bits.deBruijn64tab"], apart := false, laid := [("math/bits.deBruijn32tab", laid_math_bits_deBruijn32tab), ("math/bits.deBruijn64tab", laid_math_bits_deBruijn64tab), ("internal/strconv.uint64pow10", laid_internal_strconv_uint64pow10), ("unicode/utf8.acceptRanges", laid_unicode_utf8_acceptRanges), ("unicode/utf8.first", laid_unicode_utf8_first)], narrowed := true }
def EvrZerosUptoSaid : Prop := evrZerosUptoRow.holds Tryd.pinned (OpenSpec.upto evrZerosSpec)

end Rows
end Go.Proofs.YtgggbjkgpjcklaaDoor
