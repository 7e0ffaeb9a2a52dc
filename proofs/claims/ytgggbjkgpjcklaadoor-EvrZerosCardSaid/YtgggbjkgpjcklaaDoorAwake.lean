/-
  The calls at the head of all statements: they answer true. Helper text; no conditions.
-/
import Derived.Test.YtgggbjkgpjcklaaDoorWalkK
import Derived.Test.YtgggbjkgpjcklaaDoorAwakeLaw
namespace Go.Proofs.YtgggbjkgpjcklaaDoor
set_option linter.unusedVariables false
set_option linter.unusedSimpArgs false
open Go.RowKit

set_option maxHeartbeats 1000000 in
theorem awake_c (w : World) : Calls Tryd.prog 11 #[] w fun e w' => e = .returned (.bool true) ∧ Below w.heap.size w w' := by
  have h1 := parse_some (s := ⟨#[50, 58, 49, 46, 48, 45, 114, 99, 49, 45, 51]⟩) (by decide) (e := ⟨#[50]⟩) (v := ⟨#[49, 46, 48, 45, 114, 99, 49]⟩) (r := ⟨#[51]⟩) aw_parse
  have h2 := evrCompare_c 1 ⟨#[49, 46, 49, 48]⟩ ⟨#[49, 46, 57]⟩ (by decide) (by decide)
  rw [show compareE 1 (bs ⟨#[49, 46, 49, 48]⟩) (bs ⟨#[49, 46, 57]⟩) = (1, 0) from aw_c1] at h2
  have h3 := evrCompare_c 2 ⟨#[49, 46, 48, 126, 114, 99, 49]⟩ ⟨#[49, 46, 48]⟩ (by decide) (by decide)
  rw [show compareE 2 (bs ⟨#[49, 46, 48, 126, 114, 99, 49]⟩) (bs ⟨#[49, 46, 48]⟩) = (-1, 0) from aw_c2] at h3
  have h4 := evrMeets_c 1 4 1 ⟨#[50, 46, 48]⟩ ⟨#[49, 46, 48]⟩ (by decide) (by decide)
  rw [show meetsE 1 4 (bs ⟨#[50, 46, 48]⟩) 1 (bs ⟨#[49, 46, 48]⟩) = (false, 0) from aw_m] at h4
  have H1 := Lib.hid h1
  have H2 := Lib.hid h2
  have H3 := Lib.hid h3
  have H4 := Lib.hid h4
  clear h1 h2 h3 h4
  go_enter Tryd.func11, Tryd.ntmps11
  go_wp2_with fail
  refine (H1.out _).mono ?_
  rintro e w1 ⟨rfl, hb1⟩
  have HB1 := Lib.hid hb1
  clear hb1
  go_wp2_with fail
  have hbx : Box3 (w1.alloc (.cells #[.string ⟨#[50]⟩, .string ⟨#[49, 46, 48, 45, 114, 99, 49]⟩, .string ⟨#[51]⟩] 24)) w1.heap.size ⟨#[50]⟩ ⟨#[49, 46, 48, 45, 114, 99, 49]⟩ ⟨#[51]⟩ := .of (alloc_at _ _)
  have HX := Lib.hid hbx
  clear hbx
  refine (H2.out _).mono ?_
  rintro e w2 ⟨rfl, hb2⟩
  have HX2 := Lib.hid (HX.out.below hb2)
  have HB2 := Lib.hid (HB1.out.trans (below_to (below_tr (below1 _ _) hb2) HB1.out.size))
  clear hb2 HX HB1
  go_wp2_with fail
  refine (H3.out _).mono ?_
  rintro e w3 ⟨rfl, hb3⟩
  have HX3 := Lib.hid (HX2.out.below hb3)
  have HB3 := Lib.hid (HB2.out.trans (below_to hb3 HB2.out.size))
  clear hb3 HX2 HB2
  go_wp2_with fail
  refine (H4.out _).mono ?_
  rintro e w4 ⟨rfl, hb4⟩
  have x := HX3.out.below hb4
  have HB4 := Lib.hid (HB3.out.trans (below_to hb4 HB3.out.size))
  clear hb4 HX3 HB3
  obtain ⟨_, _, _, _, _, _, _⟩ := x
  go_wp2
  go_ret
  exact ⟨rfl, HB4.out⟩
end Go.Proofs.YtgggbjkgpjcklaaDoor
