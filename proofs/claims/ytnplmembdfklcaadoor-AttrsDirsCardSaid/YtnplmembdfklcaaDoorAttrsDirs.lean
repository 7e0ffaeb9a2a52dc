/-
  AttrsDirs: for every input the law returns true (with the library's listed tables as the program's text lays them); and its tied card. No further conditions.
-/
import Derived.Test.YtnplmembdfklcaaDoorLawC
import Derived.Test.YtnplmembdfklcaaDoorArgs
import Derived.Test.YtnplmembdfklcaaDoorFrameLaid
import Derived.Test.YtnplmembdfklcaaDoorCards
import Derived.Test.YtnplmembdfklcaaDoorTie
import Derived.Lay
import Derived.SevenTiedAt
import Derived.Stop.Joined
namespace Go.Proofs.YtnplmembdfklcaaDoor
set_option linter.unusedVariables false
set_option linter.unusedSimpArgs false
open Go.ChangeShapes Go.WideShapes Go.ChangeAt Go.RowKit
open Go.ChangeMaps (open_string shut_string)

theorem ownAttrsDirs : ownKnob Tryd.prog.godebug = none := by kernel_rfl

set_option maxRecDepth 100000 in
theorem attrsDirs_lifted (os : Os) (started : os.Started) (H : Type) (enc : TypeId × Value → H) :
    ReturnsInHanded {} Tryd.checked os 6 .any (fun w args => (Rows.attrsDirsSpec.pre enc Tryd.prog Tryd.f6 [] false w args ∧ laidMetH Tryd.prog Rows.attrsDirsRow.laid w) ∧ sizedMet enc Tryd.prog Tryd.f6 (OpenSpec.ofChange Rows.attrsDirsSpec) false w args)
      (Rows.attrsDirsSpec.post enc Tryd.prog Tryd.f6 false true false false) := by
  refine law_lifted_laid (C := Tryd.checked) ownAttrsDirs started (by kernel_rfl) Tryd.func6
    (ChangeSpec.witness_shaped (enc := enc) (C := Tryd.checked) (os := os) (X := fun w _ => laidMetH Tryd.prog Rows.attrsDirsRow.laid w) false (World.laidAll Tryd.prog os Rows.attrsDirsRow.laid) #[.slice none 0 0] 8 (World.laidAll_os _ _ _) (World.shaped_of_ZipB (by kernel_rfl) (by kernel_rfl)) (by kernel_rfl) (by kernel_rfl) (by kernel_rfl)
      (by rw [MakeChecks.laidMetH_plain _ _ _ (by kernel_rfl)]; exact laidMet_laidAll _ (by kernel_rfl) (by kernel_rfl))) rfl 4 rfl Tryd.underlying4 ?_ laidOut ?_ ?_
  · intro ds hds
    match ds, hds with
    | [d0], _ => exact ⟨rfl, rfl, rfl⟩
  · intro t ht
    have ht' : t ∈ Tryd.f6.params.toList := ht
    rw [Tryd.params6] at ht'
    have hall : ([25].all fun u => Tryd.prog.readableRec u && decide (u < Tryd.prog.types.size)) = true := by kernel_rfl
    have h2 := List.all_eq_true.1 hall t ht'
    rw [Bool.and_eq_true] at h2
    exact ⟨h2.1, of_decide_eq_true h2.2⟩
  · intro W base args ds p hval0 hA hsz hL
    have hA' : DataW.TrodAll enc Tryd.prog W 0 (fun _ => true) true Tryd.f6.params.toList args.toList ds p := hA
    have hval : ∀ (j : Nat) t v, Tryd.f6.params[j]? = some t → args[j]? = some v → Value.okWide Tryd.prog W .any base t v := hval0
    rw [Tryd.params6] at hA' hval
    obtain ⟨v0, vs0, d0, ds0, p0, q0, hargs, rfl, rfl, h0, r0⟩ := trodAll_cons hA'
    obtain ⟨rfl, rfl, rfl⟩ := trodAll_nil r0
    obtain rfl : args = #[v0] := by cases args; simp_all
    obtain ⟨m0, h0'⟩ := h0
    have hz0 : ∀ z ∈ d0.weights Tryd.prog 25, z ≤ reachBytes := fun z hz => by
      have h1 := List.all_eq_true.1 hsz z (by
        show z ∈ DataW.weightsEach Tryd.prog Tryd.f6.params.toList [d0]
        rw [Tryd.params6]
        exact DataW.weights_mem_each (j := 0) (t := 25) (d := d0) rfl rfl z hz)
      simpa using h1
    obtain ⟨a0, n0, c0, rfl, _⟩ := okWide_slice Tryd.underlying25 (hval 0 25 v0 rfl rfl)
    obtain ⟨l0, hl0⟩ := open_texts h0' hz0
    exact (dirs_walk l0 a0 n0 c0 W hl0).mono fun e W' ⟨he, hc⟩ => ⟨he, hc⟩

theorem attrsDirs_holds : Rows.AttrsDirsSaid :=
  OpenClaim.holds_of_wide 6 Tryd.f6 rfl rfl rfl rfl rfl rfl rfl ⟨rfl, rfl, rfl, rfl, rfl⟩ rfl rfl rfl rfl rfl (by kernel_rfl) Tryd.func6 (by kernel_rfl)
    (of_decide_eq_true (by kernel_rfl)) (by unfold Func.isWrapper; first | (rw [if_pos (by decide +kernel)]; kernel_rfl) | (rw [if_neg (by decide +kernel)]; exact ⟨rfl, rfl⟩))
    (fun os started H enc _ => attrsDirs_lifted os started H enc)

theorem attrsDirsCard_holds : Rows.AttrsDirsCardSaid :=
  Claim7.holds_tied_plain_at .later [] [.data, .pinned] true (true, "707a78efc8c642432874ec9110a14c8011f4b8b056438fb91a57acf91f6c2b7b") false
    attrsDirs_holds (fun _ h => by cases h) (by kernel_rfl) (fun _ h => by cases h) attrsDirs_row_tie rfl ⟨rfl, rfl⟩ (by kernel_rfl) rfl
    (fun f fn hf hfn => by
      obtain rfl : f = 6 := Option.some.inj ((show Tryd.prog.funcNamed Rows.attrsDirsRow.func = some 6 by kernel_rfl).symm.trans hf) |>.symm
      obtain rfl : fn = Tryd.f6 := (Option.some.inj (Tryd.func6.symm.trans hfn)).symm
      exact ⟨by kernel_rfl, fun j t ht => by
        rw [Tryd.params6] at ht
        have hm : t ∈ [25] := by simpa using Array.mem_of_getElem? ht
        have hall : ([25].all fun u => !Tryd.prog.wantsStandIn u) = true := by kernel_rfl
        exact (show Tryd.prog.wantsStandIn t = false by simpa using List.all_eq_true.1 hall t hm)⟩)
    (by kernel_rfl)
#print axioms attrsDirsCard_holds
end Go.Proofs.YtnplmembdfklcaaDoor
