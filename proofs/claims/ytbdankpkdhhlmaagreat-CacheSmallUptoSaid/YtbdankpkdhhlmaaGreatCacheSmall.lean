/-
  CacheSmall, the second form: where what comes in is of bulk at most 1048576, the law returns true; each argument reads as it did.  No conditions beyond the statement's own.
-/
import Derived.Test.YtbdankpkdhhlmaaGreatLawF
import Derived.Test.YtbdankpkdhhlmaaGreatBulkA
namespace Go.Proofs.YtbdankpkdhhlmaaGreat
set_option linter.unusedVariables false
set_option linter.unusedSimpArgs false
open Go.ChangeShapes Go.WideShapes Go.ChangeAt Go.RowKit
open Go.ChangeMaps (open_string shut_string)

theorem ownCacheSmall : ownKnob Tryz.prog.godebug = none := by kernel_rfl

set_option maxRecDepth 100000 in
theorem cacheSmall_lifted (os : Os) (started : os.Started) (H : Type) (enc : TypeId × Value → H) (F : Stop.Interp) :
    ReturnsInHanded {} Tryz.checked os 5 .any ((Rows.OpenSpec.upto Rows.cacheSmallSpec).pre6 enc Tryz.prog Tryz.f5 Rows.cacheSmallUptoRow.domain false) (((Rows.OpenSpec.upto Rows.cacheSmallSpec).at F).post enc Tryz.prog Tryz.f5 false true false false) := by
  refine law_lifted_upto (C := Tryz.checked) ownCacheSmall started (by kernel_rfl) Tryz.func5
    (OpenSpec.witness (enc := enc) (C := Tryz.checked) (s := Rows.OpenSpec.upto Rows.cacheSmallSpec) (k := Rows.uptoSmall) rfl false ⟨#[], #[.int .i64 0, .slice none 0 0], []⟩ 8 (by kernel_rfl) (by kernel_rfl) (by kernel_rfl)
      (x := ([.lit (.int .i64 0), .nil], [], [])) (by kernel_rfl) rfl (by kernel_rfl)) rfl 4 rfl Tryz.underlying4 ?_ laidOut ?_ ?_
  · intro ds hds
    match ds, hds with
    | [d0, d1], _ => exact ⟨rfl, rfl, rfl⟩
  · intro t ht
    have ht' : t ∈ Tryz.f5.params.toList := ht
    rw [Tryz.params5] at ht'
    simp at ht'
    rcases ht' with rfl | rfl
    all_goals exact ⟨by kernel_rfl, of_decide_eq_true (by kernel_rfl)⟩
  · intro W base args ds p hval0 hA hbulk
    have hA' : DataW.TrodAll enc Tryz.prog W 0 (fun _ => true) true Tryz.f5.params.toList args.toList ds p := hA
    have hval : ∀ (j : Nat) t v, Tryz.f5.params[j]? = some t → args[j]? = some v → Value.okWide Tryz.prog W .any base t v := hval0
    rw [Tryz.params5] at hA' hval
    obtain ⟨v0, vs0, d0, ds0, p0, q0, hargs, rfl, rfl, h0, r0⟩ := trodAll_cons hA'
    obtain ⟨v1, vs1, d1, ds1, p1, q1, rfl, rfl, rfl, h1, r1⟩ := trodAll_cons r0
    obtain ⟨rfl, rfl, rfl⟩ := trodAll_nil r1
    obtain rfl : args = #[v0, v1] := by cases args; simp_all
    obtain ⟨kd, rfl, rfl, rfl, wk⟩ := open_int Tryz.underlying3 (hval 0 3 v0 rfl rfl) h0
    obtain ⟨a, len, cap, rfl⟩ := okWide_slice Tryz.underlying31 (hval 1 31 v1 rfl rfl)
    obtain ⟨m, h1'⟩ := h1
    simp only [Rows.uptoBulkAll] at hbulk
    obtain ⟨l, hl, _⟩ := open_repos h1' (weights_reach (d := d1) (by omega) (of_decide_eq_true (by kernel_rfl)))
    obtain ⟨hb1, hb2⟩ := repos_bulk h1' hl
    replace hb1 : (l.flatMap tokRepoT).length + 1 ≤ Rows.uptoBulk d1 := hb1
    exact (cacheSmall_walk W kd l a len cap hl (canL_of (by omega) hb2)).mono fun e W' ⟨he, hc⟩ => ⟨he, hc⟩

theorem cacheSmall_holds : Rows.CacheSmallUptoSaid :=
  OpenClaim.holds_of_cond 5 Tryz.f5 rfl rfl rfl rfl rfl rfl rfl ⟨rfl, rfl, rfl, rfl, rfl⟩ rfl rfl rfl rfl rfl (by kernel_rfl) Tryz.func5 (by kernel_rfl)
    (of_decide_eq_true (by kernel_rfl)) (by unfold Func.isWrapper; first | (rw [if_pos (by decide +kernel)]; kernel_rfl) | (rw [if_neg (by decide +kernel)]; exact ⟨rfl, rfl⟩))
    (fun os started H enc _ F => cacheSmall_lifted os started H enc F)
#print axioms cacheSmall_holds
end Go.Proofs.YtbdankpkdhhlmaaGreat
