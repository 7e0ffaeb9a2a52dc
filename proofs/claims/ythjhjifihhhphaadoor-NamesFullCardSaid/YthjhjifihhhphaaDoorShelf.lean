/-
  strconv.Itoa of the library's shelf, laid at this seat's program. Helper text; no conditions beyond those typed.
-/
import Derived.Shelf.Lay
import Derived.Shelf.Strconv.Itoa3
import Derived.Ground.NamesProg
import Derived.Test.YthjhjifihhhphaaDoorChecked
namespace Go.Proofs
open Go.Shelf Go.RowKit Go.Sort Go.Lib

shelf_lay LaysM.n171 Nm 171 at Tryd as Tryd.laysM171

theorem Tryd.strconv_Itoa (n : Int) (h0 : -9223372036854775808 ≤ n) (h1 : n ≤ 9223372036854775807) (w : World) (htab : Lib.TabIs Tryd.prog w "internal/strconv.uint64pow10" .u64 Lib.pow10Tab) :
    Calls Tryd.prog 7 #[.int .i64 n] w fun e w' => e = .returned (.string ⟨(Lib.itoa n).toArray⟩) ∧ ∃ k os, w' = grow (w.drewN k) os := Any.strconv_Itoa Tryd.laysM171 n h0 h1 w htab
end Go.Proofs
