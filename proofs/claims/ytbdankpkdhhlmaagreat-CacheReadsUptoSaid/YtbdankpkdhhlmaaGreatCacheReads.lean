/-
  CacheReads, the second form: where what comes in is of bulk at most 1048576, the law returns true; each argument reads as it did.  No conditions beyond the statement's own.
-/
import Derived.Test.YtbdankpkdhhlmaaGreatLawB
import Derived.Test.YtbdankpkdhhlmaaGreatArgsB
import Derived.Test.YtbdankpkdhhlmaaGreatFrameUpto
namespace Go.Proofs.YtbdankpkdhhlmaaGreat
set_option linter.unusedVariables false
set_option linter.unusedSimpArgs false
open Go.ChangeShapes Go.WideShapes Go.ChangeAt Go.RowKit
open Go.ChangeMaps (open_string shut_string)

theorem ownCacheReads : ownKnob Tryz.prog.godebug = none := by kernel_rfl

set_option maxRecDepth 100000 in
theorem cacheReads_lifted (os : Os) (started : os.Started) (H : Type) (enc : TypeId × Value → H) (F : Stop.Interp) :
    ReturnsInHanded {} Tryz.checked os 4 .any ((Rows.OpenSpec.upto Rows.cacheReadsSpec).pre6 enc Tryz.prog Tryz.f4 Rows.cacheReadsUptoRow.domain false) (((Rows.OpenSpec.upto Rows.cacheReadsSpec).at F).post enc Tryz.prog Tryz.f4 false true false false) := by
  refine law_lifted_upto (C := Tryz.checked) ownCacheReads started (by kernel_rfl) Tryz.func4
    (OpenSpec.witness (enc := enc) (C := Tryz.checked) (s := Rows.OpenSpec.upto Rows.cacheReadsSpec) (k := Rows.uptoSmall) rfl false ⟨#[], #[.slice none 0 0], []⟩ 8 (by kernel_rfl) (by kernel_rfl) (by kernel_rfl)
      (x := ([.nil], [], [])) (by kernel_rfl) rfl (by kernel_rfl)) rfl 4 rfl Tryz.underlying4 ?_ laidOut ?_ ?_
  · intro ds hds
    match ds, hds with
    | [d0], _ => exact ⟨rfl, rfl, rfl⟩
  · intro t ht
    have ht' : t ∈ Tryz.f4.params.toList := ht
    rw [Tryz.params4] at ht'
    simp at ht'
    subst ht'
    exact ⟨by kernel_rfl, of_decide_eq_true (by kernel_rfl)⟩
  · intro W base args ds p hval0 hA hbulk
    have hA' : DataW.TrodAll enc Tryz.prog W 0 (fun _ => true) true Tryz.f4.params.toList args.toList ds p := hA
    have hval : ∀ (j : Nat) t v, Tryz.f4.params[j]? = some t → args[j]? = some v → Value.okWide Tryz.prog W .any base t v := hval0
    rw [Tryz.params4] at hA' hval
    obtain ⟨v0, vs0, d0, ds0, p0, q0, hargs, rfl, rfl, h0, r0⟩ := trodAll_cons hA'
    obtain ⟨rfl, rfl, rfl⟩ := trodAll_nil r0
    obtain rfl : args = #[v0] := by cases args; simp_all
    obtain ⟨a, len, cap, rfl⟩ := okWide_slice Tryz.underlying23 (hval 0 23 v0 rfl rfl)
    have b0 := bulk_len Tryz.underlying23 h0
    obtain ⟨l, hl, hr⟩ := readsB_of h0
    simp only [Rows.uptoBulkAll] at hbulk
    exact (cacheReads_walk W a len cap l hr hl (by omega)).mono fun e W' ⟨he, hc⟩ => ⟨he, hc⟩

theorem cacheReads_holds : Rows.CacheReadsUptoSaid :=
  OpenClaim.holds_of_cond 4 Tryz.f4 rfl rfl rfl rfl rfl rfl rfl ⟨rfl, rfl, rfl, rfl, rfl⟩ rfl rfl rfl rfl rfl (by kernel_rfl) Tryz.func4 (by kernel_rfl)
    (of_decide_eq_true (by kernel_rfl)) (by unfold Func.isWrapper; first | (rw [if_pos (by decide +kernel)]; kernel_rfl) | (rw [if_neg (by decide +kernel)]; exact ⟨rfl, rfl⟩))
    (fun os started H enc _ F => cacheReads_lifted os started H enc F)
#print axioms cacheReads_holds
end Go.Proofs.YtbdankpkdhhlmaaGreat
