/-
  PoolChecks: for every input the law returns true; each argument reads as it did. No conditions.
-/
import Derived.Test.YtgeimldijagkkaaAwake
import Derived.Test.YtgeimldijagkkaaLawsA
import Derived.Test.YtgeimldijagkkaaArgRepo
import Derived.Test.YtgeimldijagkkaaFrame
namespace Go.Proofs.Ytgeimldijagkkaa
set_option linter.unusedVariables false
set_option linter.unusedSimpArgs false
open Go.ChangeShapes Go.WideShapes Go.ChangeAt Go.RowKit
open Go.ChangeMaps (open_string shut_string)

theorem ownPoolChecks : ownKnob Try.prog.godebug = none := by kernel_rfl

set_option maxRecDepth 100000 in
theorem poolChecks_lifted (os : Os) (started : os.Started) (H : Type) (enc : TypeId × Value → H) :
    ReturnsInHanded {} Try.checked os 4 .any (Rows.poolChecksSpec.pre6 enc Try.prog Try.f4 Rows.poolChecksRow.domain false) (Rows.poolChecksSpec.post enc Try.prog Try.f4 false true false false) := by
  refine law_lifted (C := Try.checked) ownPoolChecks started (by kernel_rfl) Try.func4
    (ChangeSpec.witness6 (enc := enc) (C := Try.checked) false ⟨#[], #[.agg #[.string ⟨#[]⟩, .string ⟨#[]⟩, .string ⟨#[]⟩, .string ⟨#[]⟩, .slice none 0 0, .slice none 0 0, .slice none 0 0, .slice none 0 0, .slice none 0 0, .slice none 0 0, .slice none 0 0, .slice none 0 0]], []⟩ 8 (by kernel_rfl) (by kernel_rfl) (by kernel_rfl) (by kernel_rfl)) rfl 4 rfl Try.underlying4 ?_ laidOut ?_ ?_
  · intro ds hds
    match ds, hds with
    | [d0], _ => exact ⟨rfl, rfl, rfl⟩
  · intro t ht
    have ht' : t ∈ Try.f4.params.toList := ht
    rw [Try.params4] at ht'
    simp at ht'
    subst ht'
    exact ⟨by kernel_rfl, of_decide_eq_true (by kernel_rfl)⟩
  · intro W base args ds p hval0 hA hsz
    have hA' : DataW.TrodAll enc Try.prog W 0 (fun _ => true) true Try.f4.params.toList args.toList ds p := hA
    have hval : ∀ (j : Nat) t v, Try.f4.params[j]? = some t → args[j]? = some v → Value.okWide Try.prog W .any base t v := hval0
    rw [Try.params4] at hA' hval
    obtain ⟨v0, vs0, d0, ds0, p0, q0, hargs, rfl, rfl, h0, r0⟩ := trodAll_cons hA'
    obtain ⟨rfl, rfl, rfl⟩ := trodAll_nil r0
    obtain rfl : args = #[v0] := by cases args; simp_all
    obtain ⟨cs, rfl, _⟩ := okWide_struct Try.underlying26 (hval 0 26 v0 rfl rfl)
    obtain ⟨m, h0'⟩ := h0
    have hz : ∀ z ∈ d0.weights Try.prog 26, z ≤ reachBytes := fun z hz => by
      have h1 := List.all_eq_true.1 hsz z (by
        show z ∈ DataW.weightsEach Try.prog Try.f4.params.toList [d0]
        rw [Try.params4]
        exact DataW.weights_mem_each (j := 0) (t := 26) (d := d0) rfl rfl z hz)
      simpa using h1
    obtain ⟨pk, v, vf, hcs, hpv, s1, s2, s3⟩ := open_pkg h0' hz
    obtain ⟨a, c, rfl⟩ := hpv.slices
    obtain ⟨af, cf, hf, _⟩ := hpv.files
    subst hf
    obtain rfl : cs = (pkgCells pk.name pk.evr pk.arch pk.vendor (fun i => .slice (a i) (pk.n i) (c i)) (.slice af pk.files.length cf)).toArray := by
      rw [← hcs]
      rfl
    have hsum : pk.name.size + pk.evr.size + pk.arch.size + 2 ≤ 9223372036854775807 := by
      have : reachBytes = 140737488351232 := rfl
      omega
    exact (poolChecks_walk (Lib.hid awake_c) pk a c af pk.files.length cf W hpv hsum).mono fun e W' ⟨he, hc⟩ => ⟨he, hc⟩

theorem poolChecks_holds : Rows.PoolChecksSaid :=
  OpenClaim.holds_of_wide 4 Try.f4 rfl rfl rfl rfl rfl rfl rfl ⟨rfl, rfl, rfl, rfl, rfl⟩ rfl rfl rfl rfl rfl (by kernel_rfl) Try.func4 (by kernel_rfl)
    (of_decide_eq_true (by kernel_rfl)) (by unfold Func.isWrapper; first | (rw [if_pos (by decide +kernel)]; kernel_rfl) | (rw [if_neg (by decide +kernel)]; exact ⟨rfl, rfl⟩))
    (fun os started H enc _ => poolChecks_lifted os started H enc)
#print axioms poolChecks_holds
end Go.Proofs.Ytgeimldijagkkaa
