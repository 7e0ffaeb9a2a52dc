/-
  The walks of AttrsNames, AttrsFits, AttrsGlobs. Helper text; the conditions are those typed.
-/
import Derived.Test.YtnplmembdfklcaaDoorAwake
namespace Go.Proofs.YtnplmembdfklcaaDoor
set_option linter.unusedVariables false
set_option linter.unusedSimpArgs false
open Go.RowKit

theorem laidOut : laidOutB Tryd.prog = true := by kernel_rfl
theorem names_walk (w : World) : Calls Tryd.prog 3 #[] w fun e w' => e = .returned (.bool true) ∧ Below w.heap.size w w' := by
  have H0 := Lib.hid awake_c
  go_enter Tryd.func3, Tryd.ntmps3
  go_wp2_with fail
  refine (H0.out _).mono ?_
  rintro e w1 ⟨rfl, hb⟩
  have HB := Lib.hid hb
  clear hb
  go_wp2
  go_ret
  exact ⟨rfl, HB.out⟩

theorem fits_walk (how : Int) (p s : ByteArray) (hp : p.size ≤ 1048576) (hs : s.size ≤ 1048576) (w : World) (hm : MaxLenC w) :
    Calls Tryd.prog 4 #[.int .i64 how, .string p, .string s] w fun e w' => e = .returned (.bool true) ∧ Below w.heap.size w w' := by
  have H0 := Lib.hid awake_c
  have hF := fun (w' : World) (hb : Below w.heap.size w w') => fits_c how p s (Nat.le_trans hp (by decide)) (Nat.le_trans hs (by decide)) (fun _ => by omega) w' (fun _ => hm.below hb)
  have hR := fun (w' : World) => rfits_c how p s (by omega) (by omega) w'
  obtain ⟨R, hR0⟩ : ∃ R, fitsB how (bs p) (bs s) = R := ⟨_, rfl⟩
  rw [hR0] at hF hR
  have HF := Lib.hid hF
  have HR := Lib.hid hR
  replace hR0 := Lib.hid hR0
  clear hF hR
  have hRR : (R == R) = true := by simp
  go_enter Tryd.func4, Tryd.ntmps4
  go_wp2_with (first | (go_at_call 8; refine (H0.out _).mono ?_; rintro e w1 ⟨rfl, hb1⟩) | (go_at_call 9; refine (HF.out _ hb1).mono ?_; rintro e w2 ⟨rfl, hb2⟩) | (go_at_call 10; refine (HR.out _).mono ?_; rintro e w3 ⟨rfl, hb3⟩))
  go_ret
  exact ⟨rfl, below_tr (below_tr hb1 hb2) hb3⟩
end Go.Proofs.YtnplmembdfklcaaDoor
