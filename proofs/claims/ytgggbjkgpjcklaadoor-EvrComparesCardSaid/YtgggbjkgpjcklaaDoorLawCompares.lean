/-
  The walk of EvrCompares: it answers true. Helper text; the conditions are those typed.
-/
import Derived.Test.YtgggbjkgpjcklaaDoorRefH
namespace Go.Proofs.YtgggbjkgpjcklaaDoor
set_option linter.unusedVariables false
set_option linter.unusedSimpArgs false
open Go.RowKit

theorem compares_walk (k : Int) (a b : ByteArray) (ha : a.size ≤ maxLen) (hb : b.size ≤ maxLen) (w : World) :
    Calls Tryd.prog 5 #[.int .i64 k, .string a, .string b] w fun en w' => en = .returned (.bool true) ∧ Below w.heap.size w w' := by
  have H0 := Lib.hid awake_c
  have H1 := Lib.hid (evrCompare_c k a b ha hb)
  have H2 := Lib.hid (rCompare_c k a b ha hb)
  generalize (compareE k (bs a) (bs b)).1 = c at *
  generalize (compareE k (bs a) (bs b)).2 = e0 at *
  go_enter Tryd.func5, Tryd.ntmps5
  go_wp2_with fail
  refine (H0.out _).mono ?_
  rintro e w1 ⟨rfl, hb⟩
  have HB1 := Lib.hid hb
  clear hb
  go_wp2_with fail
  refine (H1.out _).mono ?_
  rintro e w2 ⟨rfl, hb⟩
  have HB2 := Lib.hid (below_tr HB1.out hb)
  clear hb HB1
  go_wp2_with fail
  refine (H2.out _).mono ?_
  rintro e w3 ⟨rfl, hb⟩
  have HB3 := Lib.hid (below_tr HB2.out hb)
  clear hb HB2
  go_wp2
  go_ret
  exact ⟨rfl, HB3.out⟩
end Go.Proofs.YtgggbjkgpjcklaaDoor
