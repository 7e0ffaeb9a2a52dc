/-
  PoolAdds: for every input the law returns true; each argument reads as it did. No conditions.
-/
import Derived.Test.YtgeimldijagkkaaGreatLawAdds
import Derived.Test.YtgeimldijagkkaaGreatFrame
namespace Go.Proofs.YtgeimldijagkkaaGreat
set_option linter.unusedVariables false
set_option linter.unusedSimpArgs false
open Go.ChangeShapes Go.WideShapes Go.ChangeAt Go.RowKit
open Go.ChangeMaps (open_string shut_string)

theorem ownPoolAdds : ownKnob Tryz.prog.godebug = none := by kernel_rfl

set_option maxRecDepth 100000 in
theorem poolAdds_lifted (os : Os) (started : os.Started) (H : Type) (enc : TypeId × Value → H) :
    ReturnsInHanded {} Tryz.checked os 3 .any (Rows.poolAddsSpec.pre6 enc Tryz.prog Tryz.f3 Rows.poolAddsRow.domain false) (Rows.poolAddsSpec.post enc Tryz.prog Tryz.f3 false true false false) := by
  refine law_lifted (C := Tryz.checked) ownPoolAdds started (by kernel_rfl) Tryz.func3
    (ChangeSpec.witness6 (enc := enc) (C := Tryz.checked) false ⟨#[], #[.int .i64 0, .slice none 0 0, .string ⟨#[]⟩, .int .i64 0], []⟩ 8 (by kernel_rfl) (by kernel_rfl) (by kernel_rfl) (by kernel_rfl)) rfl 4 rfl Tryz.underlying4 ?_ laidOut ?_ ?_
  · intro ds hds
    match ds, hds with
    | [d0, d1, d2, d3], _ => exact ⟨rfl, rfl, rfl⟩
  · intro t ht
    have ht' : t ∈ Tryz.f3.params.toList := ht
    rw [Tryz.params3] at ht'
    simp at ht'
    rcases ht' with rfl | rfl | rfl | rfl
    all_goals exact ⟨by kernel_rfl, of_decide_eq_true (by kernel_rfl)⟩
  · intro W base args ds p hval0 hA hsz
    have hA' : DataW.TrodAll enc Tryz.prog W 0 (fun _ => true) true Tryz.f3.params.toList args.toList ds p := hA
    have hval : ∀ (j : Nat) t v, Tryz.f3.params[j]? = some t → args[j]? = some v → Value.okWide Tryz.prog W .any base t v := hval0
    rw [Tryz.params3] at hA' hval
    obtain ⟨v0, vs0, d0, ds0, p0, q0, hargs, rfl, rfl, h0, r0⟩ := trodAll_cons hA'
    obtain ⟨v1, vs1, d1, ds1, p1, q1, rfl, rfl, rfl, h1, r1⟩ := trodAll_cons r0
    obtain ⟨v2, vs2, d2, ds2, p2, q2, rfl, rfl, rfl, h2, r2⟩ := trodAll_cons r1
    obtain ⟨v3, vs3, d3, ds3, p3, q3, rfl, rfl, rfl, h3, r3⟩ := trodAll_cons r2
    obtain ⟨rfl, rfl, rfl⟩ := trodAll_nil r3
    obtain rfl : args = #[v0, v1, v2, v3] := by cases args; simp_all
    obtain ⟨k0, rfl, rfl, rfl, wk0⟩ := open_int Tryz.underlying3 (hval 0 3 v0 rfl rfl) h0
    have hz1 : ∀ z ∈ d1.weights Tryz.prog 22, z ≤ reachBytes := fun z hz => by
      have h1 := List.all_eq_true.1 hsz z (by
        show z ∈ DataW.weightsEach Tryz.prog Tryz.f3.params.toList [_, d1, d2, d3]
        rw [Tryz.params3]
        exact DataW.weights_mem_each (j := 1) (t := 22) (d := d1) rfl rfl z hz)
      simpa using h1
    obtain ⟨al, nl, cl, rfl⟩ := okWide_slice Tryz.underlying22 (hval 1 22 v1 rfl rfl)
    obtain ⟨m1, h1'⟩ := h1
    obtain ⟨l, hl, hlf⟩ := open_repos h1' hz1
    obtain ⟨s, rfl, rfl, rfl, hs⟩ := open_string Tryz.underlying9 (hval 2 9 v2 rfl rfl) h2
    obtain ⟨k3, rfl, rfl, rfl, wk3⟩ := open_int Tryz.underlying3 (hval 3 3 v3 rfl rfl) h3
    exact (adds_walk k0 l al nl cl s k3 W hl hs).mono fun e W' ⟨he, hc⟩ => ⟨he, hc⟩

theorem poolAdds_holds : Rows.PoolAddsSaid :=
  OpenClaim.holds_of_wide 3 Tryz.f3 rfl rfl rfl rfl rfl rfl rfl ⟨rfl, rfl, rfl, rfl, rfl⟩ rfl rfl rfl rfl rfl (by kernel_rfl) Tryz.func3 (by kernel_rfl)
    (of_decide_eq_true (by kernel_rfl)) (by unfold Func.isWrapper; first | (rw [if_pos (by decide +kernel)]; kernel_rfl) | (rw [if_neg (by decide +kernel)]; exact ⟨rfl, rfl⟩))
    (fun os started H enc _ => poolAdds_lifted os started H enc)
#print axioms poolAdds_holds
end Go.Proofs.YtgeimldijagkkaaGreat
