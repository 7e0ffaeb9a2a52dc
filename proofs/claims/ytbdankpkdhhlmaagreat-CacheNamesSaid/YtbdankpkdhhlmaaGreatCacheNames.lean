/-
  CacheNames: for every input the law returns true; each argument reads as it did. No conditions.
-/
import Derived.Test.YtbdankpkdhhlmaaGreatLawsA
import Derived.Test.YtbdankpkdhhlmaaGreatArgRepo
import Derived.Test.YtbdankpkdhhlmaaGreatFrame
namespace Go.Proofs.YtbdankpkdhhlmaaGreat
set_option linter.unusedVariables false
set_option linter.unusedSimpArgs false
open Go.ChangeShapes Go.WideShapes Go.ChangeAt Go.RowKit
open Go.ChangeMaps (open_string shut_string)

theorem ownCacheNames : ownKnob Tryz.prog.godebug = none := by kernel_rfl

set_option maxRecDepth 100000 in
theorem cacheNames_lifted (os : Os) (started : os.Started) (H : Type) (enc : TypeId × Value → H) :
    ReturnsInHanded {} Tryz.checked os 3 .any (Rows.cacheNamesSpec.pre6 enc Tryz.prog Tryz.f3 Rows.cacheNamesRow.domain false) (Rows.cacheNamesSpec.post enc Tryz.prog Tryz.f3 false true false false) := by
  refine law_lifted (C := Tryz.checked) ownCacheNames started (by kernel_rfl) Tryz.func3
    (ChangeSpec.witness6 (enc := enc) (C := Tryz.checked) false ⟨#[], #[], []⟩ 8 (by kernel_rfl) (by kernel_rfl) (by kernel_rfl) (by kernel_rfl)) rfl 4 rfl Tryz.underlying4 ?_ laidOut ?_ ?_
  · intro ds hds
    match ds, hds with
    | [], _ => exact ⟨rfl, rfl, rfl⟩
  · intro t ht
    simp [Tryz.params3] at ht
  · intro W base args ds p hval0 hA hsz
    have hA' : DataW.TrodAll enc Tryz.prog W 0 (fun _ => true) true Tryz.f3.params.toList args.toList ds p := hA
    have hval : ∀ (j : Nat) t v, Tryz.f3.params[j]? = some t → args[j]? = some v → Value.okWide Tryz.prog W .any base t v := hval0
    rw [Tryz.params3] at hA' hval
    obtain ⟨rfl, rfl, rfl⟩ := trodAll_none hA'
    exact (cacheNames_walk W).mono fun e W' ⟨he, hc⟩ => ⟨he, hc⟩

theorem cacheNames_holds : Rows.CacheNamesSaid :=
  OpenClaim.holds_of_wide 3 Tryz.f3 rfl rfl rfl rfl rfl rfl rfl ⟨rfl, rfl, rfl, rfl, rfl⟩ rfl rfl rfl rfl rfl (by kernel_rfl) Tryz.func3 (by kernel_rfl)
    (of_decide_eq_true (by kernel_rfl)) (by unfold Func.isWrapper; first | (rw [if_pos (by decide +kernel)]; kernel_rfl) | (rw [if_neg (by decide +kernel)]; exact ⟨rfl, rfl⟩))
    (fun os started H enc _ => cacheNames_lifted os started H enc)
#print axioms cacheNames_holds
end Go.Proofs.YtbdankpkdhhlmaaGreat
