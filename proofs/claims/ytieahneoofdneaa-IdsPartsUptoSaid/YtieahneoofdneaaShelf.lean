/-
  The library's shelf laid at this seat's program: slices.Clone (of int, of bytes), Sort, Compact (of int). Helper text; no conditions beyond those typed.
-/
import Derived.Shelf.Lay
import Derived.Shelf.Slices.Clone
import Derived.Shelf.Slices.CompactI
import Derived.Shelf.Sort.Plain
import Derived.Shelf.Slices.In.SortNone
import Derived.Shelf.SlicesE.Clone
import Derived.Ground.NamesProg
import Derived.Ground.Names2Prog
import Derived.Ground.SlgnProg
import Derived.Test.YtieahneoofdneaaChecked
namespace Go.Proofs
open Go.Shelf Go.RowKit Go.Sort Go.Lib

shelf_lay Lays2.n15 Nm2 15 at Try as Try.laysClone
shelf_lay Lays.n189 Nm 189 at Try as Try.laysSort
shelf_lay Lays2.n20 Nm2 20 at Try as Try.laysCompact
shelf_lay_g SlLaysE0.n41 Slgn 41 at Try 23 as Try.laysCloneB
end Go.Proofs
