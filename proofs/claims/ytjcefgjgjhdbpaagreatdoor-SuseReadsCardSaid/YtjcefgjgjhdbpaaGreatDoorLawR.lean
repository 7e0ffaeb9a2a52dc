/-
  Any text is read as packages, or refused, as the document says: the walk. Helper text; the conditions are those typed.
-/
import Derived.Test.YtjcefgjgjhdbpaaGreatDoorRRdH
import Derived.Test.YtjcefgjgjhdbpaaGreatDoorLawX
namespace Go.Proofs.YtjcefgjgjhdbpaaGreatDoor
set_option linter.unusedVariables false
set_option linter.unusedSimpArgs false
open Go.RowKit Go.Maps

set_option maxHeartbeats 8000000 in
set_option maxRecDepth 1000000 in
theorem suseReads_walk (s : ByteArray) (w : World) (h1 : s.size ≤ reachBytes) : Calls Tryz.prog 3 #[.string s] w fun e w' => e = .returned (.bool true) ∧ Below w.heap.size w w' := by
  have hr : reachBytes = 140737488351232 := rfl
  have hm : 1000000000000000000 ≤ maxLen := by decide
  have HAW := Lib.hid (awake_c w)
  have H1 := Lib.hid (fun W => sparse_c s (by omega) W)
  have H2 := Lib.hid (fun W => rsparse_c s (by omega) W)
  obtain ⟨⟨ps, x⟩, hP⟩ : ∃ x, suseParse s = x := ⟨_, rfl⟩
  rw [hP] at H1 H2
  clear hP hr hm h1
  go_enter Tryz.func3, Tryz.ntmps3
  go_wp2_with fail
  refine HAW.out.mono ?_
  rintro e0 w1 ⟨rfl, hb1⟩
  have HB1 := Lib.hid hb1
  clear hb1 HAW
  go_wp2_with fail
  refine (H1.out _).mono ?_
  rintro e2 w2 ⟨va, rfl, hb2, hp2⟩
  have HB2 := Lib.hid (below_tr HB1.out hb2)
  have HP2 := Lib.hid hp2
  clear hb2 hp2 H1
  go_wp2_with fail
  refine (H2.out _).mono ?_
  rintro e3 w3 ⟨vb, rfl, hb3, hp3⟩
  have HB3 := Lib.hid (below_tr HB2.out hb3)
  have HSM := Lib.hid (sameList_c ps va vb _ _ w3 (HP2.out.low new_lt hb3) hp3)
  clear hb3 hp3 H2
  go_wp2_with fail
  refine HSM.out.mono ?_
  rintro e5 w5 ⟨rfl, hb5⟩
  have HB5 := Lib.hid hb5
  clear hb5 HSM
  have qx : (x == x) = true := by simp
  go_wp2_with fail
  go_ret
  exact ⟨by simp, below_tr HB3.out HB5.out⟩
end Go.Proofs.YtjcefgjgjhdbpaaGreatDoor
