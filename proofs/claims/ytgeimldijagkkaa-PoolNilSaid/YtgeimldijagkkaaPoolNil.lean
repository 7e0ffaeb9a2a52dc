/-
  PoolNil: for every input the law returns true; each argument reads as it did. No conditions.
-/
import Derived.Test.YtgeimldijagkkaaAwake
import Derived.Test.YtgeimldijagkkaaLawsA
import Derived.Test.YtgeimldijagkkaaArgRepo
import Derived.Test.YtgeimldijagkkaaFrame
namespace Go.Proofs.Ytgeimldijagkkaa
set_option linter.unusedVariables false
set_option linter.unusedSimpArgs false
open Go.ChangeShapes Go.WideShapes Go.ChangeAt Go.RowKit
open Go.ChangeMaps (open_string shut_string)

theorem ownPoolNil : ownKnob Try.prog.godebug = none := by kernel_rfl

set_option maxRecDepth 100000 in
theorem poolNil_lifted (os : Os) (started : os.Started) (H : Type) (enc : TypeId × Value → H) :
    ReturnsInHanded {} Try.checked os 7 .any (Rows.poolNilSpec.pre6 enc Try.prog Try.f7 Rows.poolNilRow.domain false) (Rows.poolNilSpec.post enc Try.prog Try.f7 false true false false) := by
  refine law_lifted (C := Try.checked) ownPoolNil started (by kernel_rfl) Try.func7
    (ChangeSpec.witness6 (enc := enc) (C := Try.checked) false ⟨#[], #[.agg #[.string ⟨#[]⟩, .int .i64 0, .bool false, .slice none 0 0], .int .i64 0, .string ⟨#[]⟩], []⟩ 8 (by kernel_rfl) (by kernel_rfl) (by kernel_rfl) (by kernel_rfl)) rfl 4 rfl Try.underlying4 ?_ laidOut ?_ ?_
  · intro ds hds
    match ds, hds with
    | [d0, d1, d2], _ => exact ⟨rfl, rfl, rfl⟩
  · intro t ht
    have ht' : t ∈ Try.f7.params.toList := ht
    rw [Try.params7] at ht'
    simp at ht'
    rcases ht' with rfl | rfl | rfl
    all_goals exact ⟨by kernel_rfl, of_decide_eq_true (by kernel_rfl)⟩
  · intro W base args ds p hval0 hA hsz
    have hA' : DataW.TrodAll enc Try.prog W 0 (fun _ => true) true Try.f7.params.toList args.toList ds p := hA
    have hval : ∀ (j : Nat) t v, Try.f7.params[j]? = some t → args[j]? = some v → Value.okWide Try.prog W .any base t v := hval0
    rw [Try.params7] at hA' hval
    obtain ⟨v0, vs0, d0, ds0, p0, q0, hargs, rfl, rfl, h0, r0⟩ := trodAll_cons hA'
    obtain ⟨v1, vs1, d1, ds1, p1, q1, rfl, rfl, rfl, h1, r1⟩ := trodAll_cons r0
    obtain ⟨v2, vs2, d2, ds2, p2, q2, rfl, rfl, rfl, h2, r2⟩ := trodAll_cons r1
    obtain ⟨rfl, rfl, rfl⟩ := trodAll_nil r2
    obtain rfl : args = #[v0, v1, v2] := by cases args; simp_all
    obtain ⟨cs, rfl, _⟩ := okWide_struct Try.underlying34 (hval 0 34 v0 rfl rfl)
    obtain ⟨m, h0'⟩ := h0
    have hz : ∀ z ∈ d0.weights Try.prog 34, z ≤ reachBytes := fun z hz => by
      have h1 := List.all_eq_true.1 hsz z (by
        show z ∈ DataW.weightsEach Try.prog Try.f7.params.toList [d0, d1, d2]
        rw [Try.params7]
        exact DataW.weights_mem_each (j := 0) (t := 34) (d := d0) rfl rfl z hz)
      simpa using h1
    obtain ⟨r, ap, np, cp, hcs, _, _, _⟩ := open_repo h0' hz
    obtain rfl : cs = #[.string r.name, .int .i64 r.prio, .bool r.inst, .slice ap np cp] := by
      have h1 : cs.toList = _ := hcs
      rw [← Array.toArray_toList (xs := cs), h1]
    obtain ⟨k, rfl, rfl, rfl, wk⟩ := open_int Try.underlying3 (hval 1 3 v1 rfl rfl) h1
    obtain ⟨s, rfl, rfl, rfl, hs⟩ := open_string Try.underlying9 (hval 2 9 v2 rfl rfl) h2
    exact (poolNil_walk (Lib.hid awake_c) r.name r.prio r.inst ap np cp k s W).mono fun e W' ⟨he, hc⟩ => ⟨he, hc⟩

theorem poolNil_holds : Rows.PoolNilSaid :=
  OpenClaim.holds_of_wide 7 Try.f7 rfl rfl rfl rfl rfl rfl rfl ⟨rfl, rfl, rfl, rfl, rfl⟩ rfl rfl rfl rfl rfl (by kernel_rfl) Try.func7 (by kernel_rfl)
    (of_decide_eq_true (by kernel_rfl)) (by unfold Func.isWrapper; first | (rw [if_pos (by decide +kernel)]; kernel_rfl) | (rw [if_neg (by decide +kernel)]; exact ⟨rfl, rfl⟩))
    (fun os started H enc _ => poolNil_lifted os started H enc)
#print axioms poolNil_holds
end Go.Proofs.Ytgeimldijagkkaa
