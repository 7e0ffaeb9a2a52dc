/-
  CacheOnce: for every input the law returns true; each argument reads as it did. No conditions.
-/
import Derived.Test.YtbdankpkdhhlmaaGreatOnceC
import Derived.Test.YtbdankpkdhhlmaaGreatBulkA
namespace Go.Proofs.YtbdankpkdhhlmaaGreat
set_option linter.unusedVariables false
set_option linter.unusedSimpArgs false
open Go.ChangeShapes Go.WideShapes Go.ChangeAt Go.RowKit
open Go.ChangeMaps (open_string shut_string)

theorem ownCacheOnce : ownKnob Tryz.prog.godebug = none := by kernel_rfl

set_option maxRecDepth 100000 in
theorem cacheOnce_lifted (os : Os) (started : os.Started) (H : Type) (enc : TypeId × Value → H) :
    ReturnsInHanded {} Tryz.checked os 6 .any (Rows.cacheOnceSpec.pre6 enc Tryz.prog Tryz.f6 Rows.cacheOnceRow.domain false) (Rows.cacheOnceSpec.post enc Tryz.prog Tryz.f6 false true false false) := by
  refine law_lifted (C := Tryz.checked) ownCacheOnce started (by kernel_rfl) Tryz.func6
    (ChangeSpec.witness6 (enc := enc) (C := Tryz.checked) false ⟨#[], #[.int .i64 0], []⟩ 8 (by kernel_rfl) (by kernel_rfl) (by kernel_rfl) (by kernel_rfl)) rfl 4 rfl Tryz.underlying4 ?_ laidOut ?_ ?_
  · intro ds hds
    match ds, hds with
    | [d0], _ => exact ⟨rfl, rfl, rfl⟩
  · intro t ht
    have ht' : t ∈ Tryz.f6.params.toList := ht
    rw [Tryz.params6] at ht'
    simp at ht'
    subst ht'
    exact ⟨by kernel_rfl, of_decide_eq_true (by kernel_rfl)⟩
  · intro W base args ds p hval0 hA hsz
    have hA' : DataW.TrodAll enc Tryz.prog W 0 (fun _ => true) true Tryz.f6.params.toList args.toList ds p := hA
    have hval : ∀ (j : Nat) t v, Tryz.f6.params[j]? = some t → args[j]? = some v → Value.okWide Tryz.prog W .any base t v := hval0
    rw [Tryz.params6] at hA' hval
    obtain ⟨v0, vs0, d0, ds0, p0, q0, hargs, rfl, rfl, h0, r0⟩ := trodAll_cons hA'
    obtain ⟨rfl, rfl, rfl⟩ := trodAll_nil r0
    obtain rfl : args = #[v0] := by cases args; simp_all
    obtain ⟨x, rfl, rfl, rfl, wk⟩ := open_int Tryz.underlying3 (hval 0 3 v0 rfl rfl) h0
    exact (cacheOnce_walk W x (by simp [Lit.wf, IntKind.min, IntKind.max, IntKind.bits, IntKind.signed] at wk; omega) (by simp [Lit.wf, IntKind.min, IntKind.max, IntKind.bits, IntKind.signed] at wk; omega)).mono fun e W' ⟨he, hc⟩ => ⟨he, hc⟩

theorem cacheOnce_holds : Rows.CacheOnceSaid :=
  OpenClaim.holds_of_wide 6 Tryz.f6 rfl rfl rfl rfl rfl rfl rfl ⟨rfl, rfl, rfl, rfl, rfl⟩ rfl rfl rfl rfl rfl (by kernel_rfl) Tryz.func6 (by kernel_rfl)
    (of_decide_eq_true (by kernel_rfl)) (by unfold Func.isWrapper; first | (rw [if_pos (by decide +kernel)]; kernel_rfl) | (rw [if_neg (by decide +kernel)]; exact ⟨rfl, rfl⟩))
    (fun os started H enc _ => cacheOnce_lifted os started H enc)
#print axioms cacheOnce_holds
end Go.Proofs.YtbdankpkdhhlmaaGreat
