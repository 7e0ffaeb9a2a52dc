/-
  Numbers: the walk. Helper text; the conditions are those typed.
-/
import Derived.Test.YtjcefgjgjhdbpaaDoorAwake
namespace Go.Proofs.YtjcefgjgjhdbpaaDoor
set_option linter.unusedVariables false
set_option linter.unusedSimpArgs false
open Go.RowKit Go.Maps

theorem suseNames_walk (w : World) : Calls Tryd.prog 3 #[] w fun e w' => e = .returned (.bool true) ∧ Below w.heap.size w w' := by
  have H := Lib.hid (awake_c w)
  go_enter Tryd.func3, Tryd.ntmps3
  go_wp2_with fail
  refine H.out.mono ?_
  rintro e w' ⟨rfl, hb⟩
  have HB := Lib.hid hb
  clear hb
  go_wp2_with fail
  go_ret
  exact ⟨rfl, HB.out⟩
end Go.Proofs.YtjcefgjgjhdbpaaDoor
