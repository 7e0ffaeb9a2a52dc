/-
  The walk of EvrNames: it answers true. Helper text; no conditions.
-/
import Derived.Test.YtgggbjkgpjcklaaDoorAwake
namespace Go.Proofs.YtgggbjkgpjcklaaDoor
set_option linter.unusedVariables false
set_option linter.unusedSimpArgs false
open Go.RowKit

theorem names_walk (w : World) : Calls Tryd.prog 3 #[] w fun e w' => e = .returned (.bool true) ∧ Below w.heap.size w w' := by
  have H0 := Lib.hid awake_c
  go_enter Tryd.func3, Tryd.ntmps3
  go_wp2_with fail
  refine (H0.out _).mono ?_
  rintro e w1 ⟨rfl, hb⟩
  have HB := Lib.hid hb
  clear hb
  go_wp2
  go_ret
  exact ⟨rfl, HB.out⟩
end Go.Proofs.YtgggbjkgpjcklaaDoor
