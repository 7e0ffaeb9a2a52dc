/-
  IdsBack: for every input the law returns true; each argument reads as it did. No conditions.
-/
import Derived.Test.YtieahneoofdneaaLawC
import Derived.Test.YtieahneoofdneaaArgsB
namespace Go.Proofs.Ytieahneoofdneaa
set_option linter.unusedVariables false
set_option linter.unusedSimpArgs false
open Go.ChangeShapes Go.WideShapes Go.ChangeAt Go.RowKit
open Go.ChangeMaps (open_string shut_string)

theorem ownIdsBack : ownKnob Try.prog.godebug = none := by kernel_rfl

set_option maxRecDepth 100000 in
theorem idsBack_lifted (os : Os) (started : os.Started) (H : Type) (enc : TypeId × Value → H) :
    ReturnsInHanded {} Try.checked os 5 .any (Rows.idsBackSpec.pre6 enc Try.prog Try.f5 Rows.idsBackRow.domain false) (Rows.idsBackSpec.post enc Try.prog Try.f5 false true false false) := by
  refine law_lifted (C := Try.checked) ownIdsBack started (by kernel_rfl) Try.func5
    (ChangeSpec.witness6 (enc := enc) (C := Try.checked) false ⟨#[], #[.int .u64 0, .int .u64 0, .slice none 0 0], []⟩ 8 (by kernel_rfl) (by kernel_rfl) (by kernel_rfl) (by kernel_rfl)) rfl 4 rfl Try.underlying4 ?_ laidOut ?_ ?_
  · intro ds hds
    match ds, hds with
    | [d0, d1, d2], _ => exact ⟨rfl, rfl, rfl⟩
  · intro t ht
    have ht' : t ∈ Try.f5.params.toList := ht
    rw [Try.params5] at ht'
    simp at ht'
    rcases ht' with rfl | rfl
    all_goals exact ⟨by kernel_rfl, of_decide_eq_true (by kernel_rfl)⟩
  · intro W base args ds p hval0 hA hsz
    have hA' : DataW.TrodAll enc Try.prog W 0 (fun _ => true) true Try.f5.params.toList args.toList ds p := hA
    have hval : ∀ (j : Nat) t v, Try.f5.params[j]? = some t → args[j]? = some v → Value.okWide Try.prog W .any base t v := hval0
    rw [Try.params5] at hA' hval
    obtain ⟨v0, vs0, d0, ds0, p0, q0, hargs, rfl, rfl, h0, r0⟩ := trodAll_cons hA'
    obtain ⟨v1, vs1, d1, ds1, p1, q1, rfl, rfl, rfl, h1, r1⟩ := trodAll_cons r0
    obtain ⟨v2, vs2, d2, ds2, p2, q2, rfl, rfl, rfl, h2, r2⟩ := trodAll_cons r1
    obtain ⟨rfl, rfl, rfl⟩ := trodAll_nil r2
    obtain rfl : args = #[v0, v1, v2] := by cases args; simp_all
    obtain ⟨n, rfl, hn⟩ := open_u64 (hval 0 24 v0 rfl rfl) h0
    obtain ⟨m, rfl, hm⟩ := open_u64 (hval 1 24 v1 rfl rfl) h1
    obtain ⟨a, len, cap, rfl⟩ := okWide_slice Try.underlying23 (hval 2 23 v2 rfl rfl)
    have hb := trod_bulk (P := Try.prog) hsz (j := 2) (t := 23) rfl rfl Try.underlying23 h2
    obtain ⟨l, rfl, hr⟩ := readsB_of h2
    rw [show Try.prog.bytesOf 5 = 1 by kernel_rfl] at hb
    exact (idsBack_walk W n m hn hm _ l hr (by omega)).mono fun e W' ⟨he, hc⟩ => ⟨he, hc⟩

theorem idsBack_holds : Rows.IdsBackSaid :=
  OpenClaim.holds_of_wide 5 Try.f5 rfl rfl rfl rfl rfl rfl rfl ⟨rfl, rfl, rfl, rfl, rfl⟩ rfl rfl rfl rfl rfl (by kernel_rfl) Try.func5 (by kernel_rfl)
    (of_decide_eq_true (by kernel_rfl)) (by unfold Func.isWrapper; first | (rw [if_pos (by decide +kernel)]; kernel_rfl) | (rw [if_neg (by decide +kernel)]; exact ⟨rfl, rfl⟩))
    (fun os started H enc _ => idsBack_lifted os started H enc)
#print axioms idsBack_holds
end Go.Proofs.Ytieahneoofdneaa
