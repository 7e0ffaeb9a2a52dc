/-
  SatHides: for every input the law returns true; each argument reads as it did. No conditions.
-/
import Derived.Test.YtkeagjphddcjeaaSatLawA
import Derived.Test.YtkeagjphddcjeaaLawH
import Derived.Test.YtkeagjphddcjeaaArgsS
import Derived.Test.YtkeagjphddcjeaaRows
import Derived.Test.YtkeagjphddcjeaaFrame
namespace Go.Proofs.Ytkeagjphddcjeaa
set_option linter.unusedVariables false
set_option linter.unusedSimpArgs false
open Go.ChangeShapes Go.WideShapes Go.ChangeAt Go.RowKit
open Go.ChangeMaps (open_string shut_string)

theorem ownSatHides : ownKnob Try.prog.godebug = none := by kernel_rfl

set_option maxRecDepth 100000 in
theorem satHides_lifted (os : Os) (started : os.Started) (H : Type) (enc : TypeId × Value → H) :
    ReturnsInHanded {} Try.checked os 6 .any (Rows.satHidesSpec.pre6 enc Try.prog Try.f6 Rows.satHidesRow.domain false) (Rows.satHidesSpec.post enc Try.prog Try.f6 false true false false) := by
  refine law_lifted (C := Try.checked) ownSatHides started (by kernel_rfl) Try.func6
    (ChangeSpec.witness6 (enc := enc) (C := Try.checked) false ⟨#[], #[.slice none 0 0, .slice none 0 0], []⟩ 8 (by kernel_rfl) (by kernel_rfl) (by kernel_rfl) (by kernel_rfl)) rfl 4 rfl Try.underlying4 ?_ laidOut ?_ ?_
  · intro ds hds
    match ds, hds with
    | [d0, d1], _ => exact ⟨rfl, rfl, rfl⟩
  · intro t ht
    have ht' : t ∈ Try.f6.params.toList := ht
    rw [Try.params6] at ht'
    simp at ht'
    subst ht'
    exact ⟨by kernel_rfl, of_decide_eq_true (by kernel_rfl)⟩
  · intro W base args ds p hval0 hA hsz
    have hA' : DataW.TrodAll enc Try.prog W 0 (fun _ => true) true Try.f6.params.toList args.toList ds p := hA
    have hval : ∀ (j : Nat) t v, Try.f6.params[j]? = some t → args[j]? = some v → Value.okWide Try.prog W .any base t v := hval0
    rw [Try.params6] at hA' hval
    obtain ⟨v0, vs0, d0, ds0, p0, q0, hargs, rfl, rfl, h0, r0⟩ := trodAll_cons hA'
    obtain ⟨v1, vs1, d1, ds1, p1, q1, rfl, rfl, rfl, h1, r1⟩ := trodAll_cons r0
    obtain ⟨rfl, rfl, rfl⟩ := trodAll_nil r1
    obtain rfl : args = #[v0, v1] := by cases args; simp_all
    obtain ⟨a0, n0, c0, rfl⟩ := okWide_slice Try.underlying23 (hval 0 23 v0 rfl rfl)
    obtain ⟨a1, n1, c1, rfl⟩ := okWide_slice Try.underlying23 (hval 1 23 v1 rfl rfl)
    obtain ⟨fw, _, _, hrv, hrg, _⟩ := rows_of h0
    obtain ⟨mo, _, _, hsv, hsg, _⟩ := rows_of h1
    exact (hides_walk hrv hrg hsv hsg).mono fun e W' ⟨he, hc⟩ => ⟨he, hc⟩

theorem satHides_holds : Rows.SatHidesSaid :=
  OpenClaim.holds_of_wide 6 Try.f6 rfl rfl rfl rfl rfl rfl rfl ⟨rfl, rfl, rfl, rfl, rfl⟩ rfl rfl rfl rfl rfl (by kernel_rfl) Try.func6 (by kernel_rfl)
    (of_decide_eq_true (by kernel_rfl)) (by unfold Func.isWrapper; first | (rw [if_pos (by decide +kernel)]; kernel_rfl) | (rw [if_neg (by decide +kernel)]; exact ⟨rfl, rfl⟩))
    (fun os started H enc _ => satHides_lifted os started H enc)
#print axioms satHides_holds
end Go.Proofs.Ytkeagjphddcjeaa
