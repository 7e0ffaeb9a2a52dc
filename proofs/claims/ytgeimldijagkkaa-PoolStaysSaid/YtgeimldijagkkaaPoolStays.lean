/-
  PoolStays: for every input the law returns true; each argument reads as it did. No conditions.
-/
import Derived.Test.YtgeimldijagkkaaStaysB
import Derived.Test.YtgeimldijagkkaaFrame
namespace Go.Proofs.Ytgeimldijagkkaa
set_option linter.unusedVariables false
set_option linter.unusedSimpArgs false
open Go.ChangeShapes Go.WideShapes Go.ChangeAt Go.RowKit
open Go.ChangeMaps (open_string shut_string)

theorem ownPoolStays : ownKnob Try.prog.godebug = none := by kernel_rfl

set_option maxRecDepth 100000 in
theorem poolStays_lifted (os : Os) (started : os.Started) (H : Type) (enc : TypeId × Value → H) :
    ReturnsInHanded {} Try.checked os 5 .any (Rows.poolStaysSpec.pre6 enc Try.prog Try.f5 Rows.poolStaysRow.domain false) (Rows.poolStaysSpec.post enc Try.prog Try.f5 false true false false) := by
  refine law_lifted (C := Try.checked) ownPoolStays started (by kernel_rfl) Try.func5
    (ChangeSpec.witness6 (enc := enc) (C := Try.checked) false ⟨#[], #[.slice none 0 0, .agg #[.string ⟨#[]⟩, .int .i64 0, .bool false, .slice none 0 0]], []⟩ 8 (by kernel_rfl) (by kernel_rfl) (by kernel_rfl) (by kernel_rfl)) rfl 4 rfl Try.underlying4 ?_ laidOut ?_ ?_
  · intro ds hds
    match ds, hds with
    | [d0, d1], _ => exact ⟨rfl, rfl, rfl⟩
  · intro t ht
    have ht' : t ∈ Try.f5.params.toList := ht
    rw [Try.params5] at ht'
    simp at ht'
    rcases ht' with rfl | rfl
    all_goals exact ⟨by kernel_rfl, of_decide_eq_true (by kernel_rfl)⟩
  · intro W base args ds p hval0 hA hsz
    have hA' : DataW.TrodAll enc Try.prog W 0 (fun _ => true) true Try.f5.params.toList args.toList ds p := hA
    have hval : ∀ (j : Nat) t v, Try.f5.params[j]? = some t → args[j]? = some v → Value.okWide Try.prog W .any base t v := hval0
    rw [Try.params5] at hA' hval
    obtain ⟨v0, vs0, d0, ds0, p0, q0, hargs, rfl, rfl, h0, r0⟩ := trodAll_cons hA'
    obtain ⟨v1, vs1, d1, ds1, p1, q1, rfl, rfl, rfl, h1, r1⟩ := trodAll_cons r0
    obtain ⟨rfl, rfl, rfl⟩ := trodAll_nil r1
    obtain rfl : args = #[v0, v1] := by cases args; simp_all
    have hz0 : ∀ z ∈ d0.weights Try.prog 31, z ≤ reachBytes := fun z hz => by
      have h1 := List.all_eq_true.1 hsz z (by
        show z ∈ DataW.weightsEach Try.prog Try.f5.params.toList [d0, d1]
        rw [Try.params5]
        exact DataW.weights_mem_each (j := 0) (t := 31) (d := d0) rfl rfl z hz)
      simpa using h1
    have hz1 : ∀ z ∈ d1.weights Try.prog 34, z ≤ reachBytes := fun z hz => by
      have h1 := List.all_eq_true.1 hsz z (by
        show z ∈ DataW.weightsEach Try.prog Try.f5.params.toList [d0, d1]
        rw [Try.params5]
        exact DataW.weights_mem_each (j := 1) (t := 34) (d := d1) rfl rfl z hz)
      simpa using h1
    obtain ⟨al, nl, cl, rfl⟩ := okWide_slice Try.underlying31 (hval 0 31 v0 rfl rfl)
    obtain ⟨m0, h0'⟩ := h0
    obtain ⟨l, hl, hlf⟩ := open_repos h0' hz0
    have hnl : nl ≤ 9223372036854775807 := by
      obtain ⟨a2, c2, e, hn, _⟩ := hl
      injection e with _ e2 _
      omega
    obtain ⟨cs, rfl, _⟩ := okWide_struct Try.underlying34 (hval 1 34 v1 rfl rfl)
    obtain ⟨m1, h1'⟩ := h1
    obtain ⟨r, ap, np, cp, hcs, hmp, hmf, _⟩ := open_repo h1' hz1
    obtain rfl : cs = #[.string r.name, .int .i64 r.prio, .bool r.inst, .slice ap np cp] := by
      have h1 : cs.toList = _ := hcs
      rw [← Array.toArray_toList (xs := cs), h1]
    exact (poolStays_walk (Lib.hid awake_c) l al nl cl r ap np cp W hl hlf hmp hmf hnl).mono fun e W' ⟨he, hc⟩ => ⟨he, hc⟩

theorem poolStays_holds : Rows.PoolStaysSaid :=
  OpenClaim.holds_of_wide 5 Try.f5 rfl rfl rfl rfl rfl rfl rfl ⟨rfl, rfl, rfl, rfl, rfl⟩ rfl rfl rfl rfl rfl (by kernel_rfl) Try.func5 (by kernel_rfl)
    (of_decide_eq_true (by kernel_rfl)) (by unfold Func.isWrapper; first | (rw [if_pos (by decide +kernel)]; kernel_rfl) | (rw [if_neg (by decide +kernel)]; exact ⟨rfl, rfl⟩))
    (fun os started H enc _ => poolStays_lifted os started H enc)
#print axioms poolStays_holds
end Go.Proofs.Ytgeimldijagkkaa
