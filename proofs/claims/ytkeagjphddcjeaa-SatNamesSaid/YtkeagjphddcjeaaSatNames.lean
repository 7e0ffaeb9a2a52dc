/-
  SatNames: for every input the law returns true; each argument reads as it did. No conditions.
-/
import Derived.Test.YtkeagjphddcjeaaSatLawA
import Derived.Test.YtkeagjphddcjeaaRows
import Derived.Test.YtkeagjphddcjeaaFrame
namespace Go.Proofs.Ytkeagjphddcjeaa
set_option linter.unusedVariables false
set_option linter.unusedSimpArgs false
open Go.ChangeShapes Go.WideShapes Go.ChangeAt Go.RowKit
open Go.ChangeMaps (open_string shut_string)

theorem ownSatNames : ownKnob Try.prog.godebug = none := by kernel_rfl

set_option maxRecDepth 100000 in
theorem satNames_lifted (os : Os) (started : os.Started) (H : Type) (enc : TypeId × Value → H) :
    ReturnsInHanded {} Try.checked os 3 .any (Rows.satNamesSpec.pre6 enc Try.prog Try.f3 Rows.satNamesRow.domain false) (Rows.satNamesSpec.post enc Try.prog Try.f3 false true false false) := by
  refine law_lifted (C := Try.checked) ownSatNames started (by kernel_rfl) Try.func3
    (ChangeSpec.witness6 (enc := enc) (C := Try.checked) false ⟨#[], #[], []⟩ 8 (by kernel_rfl) (by kernel_rfl) (by kernel_rfl) (by kernel_rfl)) rfl 4 rfl Try.underlying4 ?_ laidOut ?_ ?_
  · intro ds hds
    match ds, hds with
    | [], _ => exact ⟨rfl, rfl, rfl⟩
  · intro t ht
    simp [Try.params3] at ht
  · intro W base args ds p hval0 hA hsz
    have hA' : DataW.TrodAll enc Try.prog W 0 (fun _ => true) true Try.f3.params.toList args.toList ds p := hA
    have hval : ∀ (j : Nat) t v, Try.f3.params[j]? = some t → args[j]? = some v → Value.okWide Try.prog W .any base t v := hval0
    rw [Try.params3] at hA' hval
    obtain ⟨rfl, rfl, rfl⟩ := trodAll_none hA'
    exact (satNames_walk W).mono fun e W' ⟨he, hc⟩ => ⟨he, hc⟩

theorem satNames_holds : Rows.SatNamesSaid :=
  OpenClaim.holds_of_wide 3 Try.f3 rfl rfl rfl rfl rfl rfl rfl ⟨rfl, rfl, rfl, rfl, rfl⟩ rfl rfl rfl rfl rfl (by kernel_rfl) Try.func3 (by kernel_rfl)
    (of_decide_eq_true (by kernel_rfl)) (by unfold Func.isWrapper; first | (rw [if_pos (by decide +kernel)]; kernel_rfl) | (rw [if_neg (by decide +kernel)]; exact ⟨rfl, rfl⟩))
    (fun os started H enc _ => satNames_lifted os started H enc)
#print axioms satNames_holds
end Go.Proofs.Ytkeagjphddcjeaa
