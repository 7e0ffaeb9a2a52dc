/-
  PoolParts: for every input the law returns true; each argument reads as it did. No conditions.
-/
import Derived.Test.YtgeimldijagkkaaPartsB
import Derived.Test.YtgeimldijagkkaaFrame
namespace Go.Proofs.Ytgeimldijagkkaa
set_option linter.unusedVariables false
set_option linter.unusedSimpArgs false
open Go.ChangeShapes Go.WideShapes Go.ChangeAt Go.RowKit
open Go.ChangeMaps (open_string shut_string)

theorem ownPoolParts : ownKnob Try.prog.godebug = none := by kernel_rfl

set_option maxRecDepth 100000 in
theorem poolParts_lifted (os : Os) (started : os.Started) (H : Type) (enc : TypeId × Value → H) :
    ReturnsInHanded {} Try.checked os 6 .any (Rows.poolPartsSpec.pre6 enc Try.prog Try.f6 Rows.poolPartsRow.domain false) (Rows.poolPartsSpec.post enc Try.prog Try.f6 false true false false) := by
  refine law_lifted (C := Try.checked) ownPoolParts started (by kernel_rfl) Try.func6
    (ChangeSpec.witness6 (enc := enc) (C := Try.checked) false ⟨#[], #[.slice none 0 0], []⟩ 8 (by kernel_rfl) (by kernel_rfl) (by kernel_rfl) (by kernel_rfl)) rfl 4 rfl Try.underlying4 ?_ laidOut ?_ ?_
  · intro ds hds
    match ds, hds with
    | [d0], _ => exact ⟨rfl, rfl, rfl⟩
  · intro t ht
    have ht' : t ∈ Try.f6.params.toList := ht
    rw [Try.params6] at ht'
    simp at ht'
    subst ht'
    exact ⟨by kernel_rfl, of_decide_eq_true (by kernel_rfl)⟩
  · intro W base args ds p hval0 hA hsz
    have hA' : DataW.TrodAll enc Try.prog W 0 (fun _ => true) true Try.f6.params.toList args.toList ds p := hA
    have hval : ∀ (j : Nat) t v, Try.f6.params[j]? = some t → args[j]? = some v → Value.okWide Try.prog W .any base t v := hval0
    rw [Try.params6] at hA' hval
    obtain ⟨v0, vs0, d0, ds0, p0, q0, hargs, rfl, rfl, h0, r0⟩ := trodAll_cons hA'
    obtain ⟨rfl, rfl, rfl⟩ := trodAll_nil r0
    obtain rfl : args = #[v0] := by cases args; simp_all
    have hz0 : ∀ z ∈ d0.weights Try.prog 31, z ≤ reachBytes := fun z hz => by
      have h1 := List.all_eq_true.1 hsz z (by
        show z ∈ DataW.weightsEach Try.prog Try.f6.params.toList [d0]
        rw [Try.params6]
        exact DataW.weights_mem_each (j := 0) (t := 31) (d := d0) rfl rfl z hz)
      simpa using h1
    obtain ⟨al, nl, cl, rfl⟩ := okWide_slice Try.underlying31 (hval 0 31 v0 rfl rfl)
    obtain ⟨m0, h0'⟩ := h0
    obtain ⟨l, hl, hlf⟩ := open_repos h0' hz0
    have hnl : nl ≤ 9223372036854775807 := by
      obtain ⟨a2, c2, e, hn, _⟩ := hl
      injection e with _ e2 _
      omega
    exact (poolParts_walk (Lib.hid awake_c) l al nl cl W hl hlf hnl).mono fun e W' ⟨he, hc⟩ => ⟨he, hc⟩

theorem poolParts_holds : Rows.PoolPartsSaid :=
  OpenClaim.holds_of_wide 6 Try.f6 rfl rfl rfl rfl rfl rfl rfl ⟨rfl, rfl, rfl, rfl, rfl⟩ rfl rfl rfl rfl rfl (by kernel_rfl) Try.func6 (by kernel_rfl)
    (of_decide_eq_true (by kernel_rfl)) (by unfold Func.isWrapper; first | (rw [if_pos (by decide +kernel)]; kernel_rfl) | (rw [if_neg (by decide +kernel)]; exact ⟨rfl, rfl⟩))
    (fun os started H enc _ => poolParts_lifted os started H enc)
#print axioms poolParts_holds
end Go.Proofs.Ytgeimldijagkkaa
