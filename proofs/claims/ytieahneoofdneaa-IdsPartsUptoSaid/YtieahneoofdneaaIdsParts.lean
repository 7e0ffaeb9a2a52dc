/-
  IdsParts, the second form: where what comes in is of bulk at most 1048576, the law returns true; each argument reads as it did.  No conditions beyond the statement's own.
-/
import Derived.Test.YtieahneoofdneaaLawF
import Derived.Test.YtieahneoofdneaaArgsI
import Derived.Test.YtieahneoofdneaaFrameUpto
namespace Go.Proofs.Ytieahneoofdneaa
set_option linter.unusedVariables false
set_option linter.unusedSimpArgs false
open Go.ChangeShapes Go.WideShapes Go.ChangeAt Go.RowKit
open Go.ChangeMaps (open_string shut_string)

theorem ownIdsParts : ownKnob Try.prog.godebug = none := by kernel_rfl

set_option maxRecDepth 100000 in
theorem idsParts_lifted (os : Os) (started : os.Started) (H : Type) (enc : TypeId × Value → H) (F : Stop.Interp) :
    ReturnsInHanded {} Try.checked os 8 .any ((Rows.OpenSpec.upto Rows.idsPartsSpec).pre6 enc Try.prog Try.f8 Rows.idsPartsUptoRow.domain false) (((Rows.OpenSpec.upto Rows.idsPartsSpec).at F).post enc Try.prog Try.f8 false true false false) := by
  refine law_lifted_upto (C := Try.checked) ownIdsParts started (by kernel_rfl) Try.func8
    (OpenSpec.witness (enc := enc) (C := Try.checked) (s := Rows.OpenSpec.upto Rows.idsPartsSpec) (k := Rows.uptoSmall) rfl false ⟨#[], #[.slice none 0 0, .slice none 0 0], []⟩ 8 (by kernel_rfl) (by kernel_rfl) (by kernel_rfl)
      (x := ([.nil, .nil], [], [])) (by kernel_rfl) rfl (by kernel_rfl)) rfl 4 rfl Try.underlying4 ?_ laidOut ?_ ?_
  · intro ds hds
    match ds, hds with
    | [d0, d1], _ => exact ⟨rfl, rfl, rfl⟩
  · intro t ht
    have ht' : t ∈ Try.f8.params.toList := ht
    rw [Try.params8] at ht'
    simp at ht'
    subst ht'
    exact ⟨by kernel_rfl, of_decide_eq_true (by kernel_rfl)⟩
  · intro W base args ds p hval0 hA hbulk
    have hA' : DataW.TrodAll enc Try.prog W 0 (fun _ => true) true Try.f8.params.toList args.toList ds p := hA
    have hval : ∀ (j : Nat) t v, Try.f8.params[j]? = some t → args[j]? = some v → Value.okWide Try.prog W .any base t v := hval0
    rw [Try.params8] at hA' hval
    obtain ⟨v0, vs0, d0, ds0, p0, q0, hargs, rfl, rfl, h0, r0⟩ := trodAll_cons hA'
    obtain ⟨v1, vs1, d1, ds1, p1, q1, rfl, rfl, rfl, h1, r1⟩ := trodAll_cons r0
    obtain ⟨rfl, rfl, rfl⟩ := trodAll_nil r1
    obtain rfl : args = #[v0, v1] := by cases args; simp_all
    obtain ⟨a0, len0, cap0, rfl⟩ := okWide_slice Try.underlying34 (hval 0 34 v0 rfl rfl)
    obtain ⟨a1, len1, cap1, rfl⟩ := okWide_slice Try.underlying34 (hval 1 34 v1 rfl rfl)
    have b0 := bulk_len Try.underlying34 h0
    have b1 := bulk_len Try.underlying34 h1
    obtain ⟨xs, hx⟩ := cutI_of h0
    obtain ⟨ys, hy⟩ := cutI_of h1
    simp only [Rows.uptoBulkAll] at hbulk
    exact (idsParts_walk W a0 a1 len0 cap0 len1 cap1 xs ys hx hy (by omega) (by omega)).mono fun e W' ⟨he, hc⟩ => ⟨he, hc⟩

theorem idsParts_holds : Rows.IdsPartsUptoSaid :=
  OpenClaim.holds_of_cond 8 Try.f8 rfl rfl rfl rfl rfl rfl rfl ⟨rfl, rfl, rfl, rfl, rfl⟩ rfl rfl rfl rfl rfl (by kernel_rfl) Try.func8 (by kernel_rfl)
    (of_decide_eq_true (by kernel_rfl)) (by unfold Func.isWrapper; first | (rw [if_pos (by decide +kernel)]; kernel_rfl) | (rw [if_neg (by decide +kernel)]; exact ⟨rfl, rfl⟩))
    (fun os started H enc _ F => idsParts_lifted os started H enc F)
#print axioms idsParts_holds
end Go.Proofs.Ytieahneoofdneaa
