/-
  IdsAdds: for every input the law returns true; each argument reads as it did. No conditions.
-/
import Derived.Test.YtieahneoofdneaaLawD
import Derived.Test.YtieahneoofdneaaArgs
namespace Go.Proofs.Ytieahneoofdneaa
set_option linter.unusedVariables false
set_option linter.unusedSimpArgs false
open Go.ChangeShapes Go.WideShapes Go.ChangeAt Go.RowKit
open Go.ChangeMaps (open_string shut_string)

theorem ownIdsAdds : ownKnob Try.prog.godebug = none := by kernel_rfl

theorem numsIn_of {w : World} {a : Option Addr} {zs : List Int} (h : IntsIn .u64 w a zs) : ∃ ns : List Nat, ns.length = zs.length ∧ (∀ n ∈ ns, n < 18446744073709551616) ∧ NumsIn w a ns := by
  obtain ⟨hw, hc⟩ := h
  have hb : ∀ z ∈ zs, 0 ≤ z ∧ z ≤ 18446744073709551615 := fun z hz => by
    have := hw z hz
    simpa [Lit.wf, IntKind.min, IntKind.max, IntKind.signed, IntKind.bits] using this
  refine ⟨zs.map Int.toNat, by simp, fun n hn => ?_, ?_⟩
  · obtain ⟨z, hz, rfl⟩ := List.mem_map.1 hn
    have := hb z hz
    omega
  · rcases hc with rfl | ⟨b, off, rfl, _, hcell⟩
    · exact .inl rfl
    · refine .inr ⟨b, off, rfl, fun i hi => ?_⟩
      have hi' : i < zs.length := by simpa using hi
      rw [hcell i hi']
      have := hb zs[i] (List.getElem_mem hi')
      simp [List.getD, List.getElem?_eq_getElem hi']
      omega

set_option maxRecDepth 100000 in
theorem idsAdds_lifted (os : Os) (started : os.Started) (H : Type) (enc : TypeId × Value → H) :
    ReturnsInHanded {} Try.checked os 6 .any (Rows.idsAddsSpec.pre6 enc Try.prog Try.f6 Rows.idsAddsRow.domain false) (Rows.idsAddsSpec.post enc Try.prog Try.f6 false true false false) := by
  refine law_lifted (C := Try.checked) ownIdsAdds started (by kernel_rfl) Try.func6
    (ChangeSpec.witness6 (enc := enc) (C := Try.checked) false ⟨#[], #[.slice none 0 0], []⟩ 8 (by kernel_rfl) (by kernel_rfl) (by kernel_rfl) (by kernel_rfl)) rfl 4 rfl Try.underlying4 ?_ laidOut ?_ ?_
  · intro ds hds
    match ds, hds with
    | [d0], _ => exact ⟨rfl, rfl, rfl⟩
  · intro t ht
    have ht' : t ∈ Try.f6.params.toList := ht
    rw [Try.params6] at ht'
    simp at ht'
    subst ht'
    exact ⟨by kernel_rfl, of_decide_eq_true (by kernel_rfl)⟩
  · intro W base args ds p hval0 hA hsz
    have hA' : DataW.TrodAll enc Try.prog W 0 (fun _ => true) true Try.f6.params.toList args.toList ds p := hA
    have hval : ∀ (j : Nat) t v, Try.f6.params[j]? = some t → args[j]? = some v → Value.okWide Try.prog W .any base t v := hval0
    rw [Try.params6] at hA' hval
    obtain ⟨v0, vs0, d0, ds0, p0, q0, hargs, rfl, rfl, h0, r0⟩ := trodAll_cons hA'
    obtain ⟨rfl, rfl, rfl⟩ := trodAll_nil r0
    obtain rfl : args = #[v0] := by cases args; simp_all
    obtain ⟨a, len, cap, rfl⟩ := okWide_slice Try.underlying32 (hval 0 32 v0 rfl rfl)
    have hb := trod_bulk (P := Try.prog) hsz (j := 0) (t := 32) rfl rfl Try.underlying32 h0
    rw [show Try.prog.bytesOf 24 = 8 by kernel_rfl] at hb
    obtain ⟨zs, rfl, hin⟩ := intsIn_of Try.underlying32 Try.underlying24 (by kernel_rfl) h0
    obtain ⟨ns, hl, hn, hu⟩ := numsIn_of hin
    rw [← hl] at hb ⊢
    exact (idsAdds_walk W a cap ns hn hu hb).mono fun e W' ⟨he, hc⟩ => ⟨he, hc⟩

theorem idsAdds_holds : Rows.IdsAddsSaid :=
  OpenClaim.holds_of_wide 6 Try.f6 rfl rfl rfl rfl rfl rfl rfl ⟨rfl, rfl, rfl, rfl, rfl⟩ rfl rfl rfl rfl rfl (by kernel_rfl) Try.func6 (by kernel_rfl)
    (of_decide_eq_true (by kernel_rfl)) (by unfold Func.isWrapper; first | (rw [if_pos (by decide +kernel)]; kernel_rfl) | (rw [if_neg (by decide +kernel)]; exact ⟨rfl, rfl⟩))
    (fun os started H enc _ => idsAdds_lifted os started H enc)
#print axioms idsAdds_holds
end Go.Proofs.Ytieahneoofdneaa
