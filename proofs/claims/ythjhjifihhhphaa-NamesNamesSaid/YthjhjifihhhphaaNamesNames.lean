/-
  NamesNames: for every input (there is none) the law returns true and leaves memory as it was. No conditions.
-/
import Derived.Test.YthjhjifihhhphaaLawA
import Derived.Test.YthjhjifihhhphaaFrame
namespace Go.Proofs.Ythjhjifihhhphaa
set_option linter.unusedVariables false
set_option linter.unusedSimpArgs false
open Go.ChangeShapes Go.WideShapes Go.ChangeAt Go.RowKit

theorem own : ownKnob Try.prog.godebug = none := by kernel_rfl

set_option maxRecDepth 100000 in
theorem namesNames_lifted (os : Os) (started : os.Started) (H : Type) (enc : TypeId × Value → H) :
    ReturnsInHanded {} Try.checked os 3 .any (Rows.namesNamesSpec.pre6 enc Try.prog Try.f3 Rows.namesNamesRow.domain false) (Rows.namesNamesSpec.post enc Try.prog Try.f3 false true false false) := by
  refine law_lifted (C := Try.checked) own started (by kernel_rfl) Try.func3
    (ChangeSpec.witness6 (enc := enc) (C := Try.checked) false ⟨#[], #[], []⟩ 8 (by kernel_rfl) (by kernel_rfl) (by kernel_rfl) (by kernel_rfl)) rfl 4 rfl Try.underlying4 ?_ laidOut ?_ ?_
  · intro ds hds
    match ds, hds with
    | [], _ => exact ⟨rfl, rfl, rfl⟩
  · intro t ht
    simp [Try.params3] at ht
  · intro W base args ds p hval hA hsz
    have hA' : DataW.TrodAll enc Try.prog W 0 (fun _ => true) true Try.f3.params.toList args.toList ds p := hA
    rw [Try.params3] at hA'
    obtain ⟨rfl, rfl, rfl⟩ := trodAll_none hA'
    exact (namesNames_walk W).mono fun e W' ⟨he, hc⟩ => ⟨he, hc.below (Nat.le_refl _) (fun _ h => h.elim)⟩

theorem namesNames_holds : Rows.NamesNamesSaid :=
  OpenClaim.holds_of_wide 3 Try.f3 rfl rfl rfl rfl rfl rfl rfl ⟨rfl, rfl, rfl, rfl, rfl⟩ rfl rfl rfl rfl rfl (by kernel_rfl) Try.func3 (by kernel_rfl)
    (of_decide_eq_true (by kernel_rfl)) (by unfold Func.isWrapper; first | (rw [if_pos (by decide +kernel)]; kernel_rfl) | (rw [if_neg (by decide +kernel)]; exact ⟨rfl, rfl⟩))
    (fun os started H enc _ => namesNames_lifted os started H enc)
#print axioms namesNames_holds
end Go.Proofs.Ythjhjifihhhphaa
