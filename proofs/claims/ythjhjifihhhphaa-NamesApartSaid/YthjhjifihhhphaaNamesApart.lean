/-
  NamesApart: for every input the law returns true; each argument reads as it did. No conditions.
-/
import Derived.Test.YthjhjifihhhphaaLawB
import Derived.Test.YthjhjifihhhphaaFrame
import Derived.Test.YthjhjifihhhphaaArgs
namespace Go.Proofs.Ythjhjifihhhphaa
set_option linter.unusedVariables false
set_option linter.unusedSimpArgs false
open Go.ChangeShapes Go.WideShapes Go.ChangeAt Go.RowKit
open Go.ChangeMaps (open_string shut_string)

theorem ownNamesApart : ownKnob Try.prog.godebug = none := by kernel_rfl

set_option maxRecDepth 100000 in
theorem namesApart_lifted (os : Os) (started : os.Started) (H : Type) (enc : TypeId × Value → H) :
    ReturnsInHanded {} Try.checked os 4 .any (Rows.namesApartSpec.pre6 enc Try.prog Try.f4 Rows.namesApartRow.domain false) (Rows.namesApartSpec.post enc Try.prog Try.f4 false true false false) := by
  refine law_lifted (C := Try.checked) ownNamesApart started (by kernel_rfl) Try.func4
    (ChangeSpec.witness6 (enc := enc) (C := Try.checked) false ⟨#[], #[.slice none 0 0, .agg #[.int .i64 0, .int .i64 0, .int .i64 0], .agg #[.int .i64 0, .int .i64 0, .int .i64 0]], []⟩ 8 (by kernel_rfl) (by kernel_rfl) (by kernel_rfl) (by kernel_rfl)) rfl 4 rfl Try.underlying4 ?_ laidOut ?_ ?_
  · intro ds hds
    match ds, hds with
    | [d0, d1, d2], _ => exact ⟨rfl, rfl, rfl⟩
  · intro t ht
    have ht' : t ∈ Try.f4.params.toList := ht
    rw [Try.params4] at ht'
    simp at ht'
    rcases ht' with rfl | rfl
    all_goals exact ⟨by kernel_rfl, of_decide_eq_true (by kernel_rfl)⟩
  · intro W base args ds p hval0 hA hsz
    have hA' : DataW.TrodAll enc Try.prog W 0 (fun _ => true) true Try.f4.params.toList args.toList ds p := hA
    have hval : ∀ (j : Nat) t v, Try.f4.params[j]? = some t → args[j]? = some v → Value.okWide Try.prog W .any base t v := hval0
    rw [Try.params4] at hA' hval
    obtain ⟨v0, vs0, d0, ds0, p0, q0, hargs, rfl, rfl, h0, r0⟩ := trodAll_cons hA'
    obtain ⟨v1, vs1, d1, ds1, p1, q1, rfl, rfl, rfl, h1, r1⟩ := trodAll_cons r0
    obtain ⟨v2, vs2, d2, ds2, p2, q2, rfl, rfl, rfl, h2, r2⟩ := trodAll_cons r1
    obtain ⟨rfl, rfl, rfl⟩ := trodAll_nil r2
    obtain rfl : args = #[v0, v1, v2] := by cases args; simp_all
    obtain ⟨a, len, cap, rfl⟩ := okWide_slice Try.underlying23 (hval 0 23 v0 rfl rfl)
    have hl := trod_len Try.underlying23 h0
    obtain ⟨ss, rfl, hss⟩ := strsIn_of Try.underlying23 Try.underlying9 (by kernel_rfl) h0
    obtain ⟨x0, x1, x2, rfl, wx0, wx1, wx2⟩ := open_arr3 Try.underlying24 Try.underlying3 (by kernel_rfl) (by kernel_rfl) (hval 1 24 v1 rfl rfl) h1
    obtain ⟨y0, y1, y2, rfl, wy0, wy1, wy2⟩ := open_arr3 Try.underlying24 Try.underlying3 (by kernel_rfl) (by kernel_rfl) (hval 2 24 v2 rfl rfl) h2
    exact (namesApart_walk W a cap ss hss hl x0 x1 x2 y0 y1 y2 wx0 wx1 wx2 wy0 wy1 wy2).mono fun e W' ⟨he, hc⟩ => ⟨he, hc.below (Nat.le_refl _) (fun _ h => h.elim)⟩

theorem namesApart_holds : Rows.NamesApartSaid :=
  OpenClaim.holds_of_wide 4 Try.f4 rfl rfl rfl rfl rfl rfl rfl ⟨rfl, rfl, rfl, rfl, rfl⟩ rfl rfl rfl rfl rfl (by kernel_rfl) Try.func4 (by kernel_rfl)
    (of_decide_eq_true (by kernel_rfl)) (by unfold Func.isWrapper; first | (rw [if_pos (by decide +kernel)]; kernel_rfl) | (rw [if_neg (by decide +kernel)]; exact ⟨rfl, rfl⟩))
    (fun os started H enc _ => namesApart_lifted os started H enc)
#print axioms namesApart_holds
end Go.Proofs.Ythjhjifihhhphaa
