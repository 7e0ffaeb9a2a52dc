/-
  SuseBlocks: for every input the law returns true (with the library's listed tables as the program's text lays them); and its tied card. No further conditions.
-/
import Derived.Test.YtjcefgjgjhdbpaaDoorLawC
import Derived.Test.YtjcefgjgjhdbpaaDoorArgsT
import Derived.Test.YtjcefgjgjhdbpaaDoorFrameLaid
import Derived.Test.YtjcefgjgjhdbpaaDoorCards
import Derived.Test.YtjcefgjgjhdbpaaDoorTie
import Derived.Lay
import Derived.SevenTiedAt
import Derived.Stop.Joined
namespace Go.Proofs.YtjcefgjgjhdbpaaDoor
set_option linter.unusedVariables false
set_option linter.unusedSimpArgs false
open Go.ChangeShapes Go.WideShapes Go.ChangeAt Go.RowKit
open Go.ChangeMaps (open_string shut_string)

theorem ownSuseBlocks : ownKnob Tryd.prog.godebug = none := by kernel_rfl

set_option maxRecDepth 100000 in
theorem suseBlocks_lifted (os : Os) (started : os.Started) (H : Type) (enc : TypeId × Value → H) :
    ReturnsInHanded {} Tryd.checked os 5 .any (fun w args => (Rows.suseBlocksSpec.pre enc Tryd.prog Tryd.f5 [] false w args ∧ laidMetH Tryd.prog Rows.suseBlocksRow.laid w) ∧ sizedMet enc Tryd.prog Tryd.f5 (OpenSpec.ofChange Rows.suseBlocksSpec) false w args)
      (Rows.suseBlocksSpec.post enc Tryd.prog Tryd.f5 false true false false) := by
  refine law_lifted_laid (C := Tryd.checked) ownSuseBlocks started (by kernel_rfl) Tryd.func5
    (ChangeSpec.witness_shaped (enc := enc) (C := Tryd.checked) (os := os) (X := fun w _ => laidMetH Tryd.prog Rows.suseBlocksRow.laid w) false (World.laidAll Tryd.prog os Rows.suseBlocksRow.laid) #[.string ⟨#[]⟩, .slice none 0 0] 8 (World.laidAll_os _ _ _) (World.shaped_of_ZipB (by kernel_rfl) (by kernel_rfl)) (by kernel_rfl) (by kernel_rfl) (by kernel_rfl)
      (by rw [MakeChecks.laidMetH_plain _ _ _ (by kernel_rfl)]; exact laidMet_laidAll _ (by kernel_rfl) (by kernel_rfl))) rfl 4 rfl Tryd.underlying4 ?_ laidOut ?_ ?_
  · intro ds hds
    match ds, hds with
    | [d0, d1], _ => exact ⟨rfl, rfl, rfl⟩
  · intro t ht
    have ht' : t ∈ Tryd.f5.params.toList := ht
    rw [Tryd.params5] at ht'
    have hall : ([9, 29].all fun u => Tryd.prog.readableRec u && decide (u < Tryd.prog.types.size)) = true := by kernel_rfl
    have h2 := List.all_eq_true.1 hall t ht'
    rw [Bool.and_eq_true] at h2
    exact ⟨h2.1, of_decide_eq_true h2.2⟩
  · intro W base args ds p hval0 hA hsz hL
    have hA' : DataW.TrodAll enc Tryd.prog W 0 (fun _ => true) true Tryd.f5.params.toList args.toList ds p := hA
    have hval : ∀ (j : Nat) t v, Tryd.f5.params[j]? = some t → args[j]? = some v → Value.okWide Tryd.prog W .any base t v := hval0
    rw [Tryd.params5] at hA' hval
    obtain ⟨v0, vs0, d0, ds0, p0, q0, hargs, rfl, rfl, h0, r0⟩ := trodAll_cons hA'
    obtain ⟨v1, vs1, d1, ds1, p1, q1, rfl, rfl, rfl, h1, r1⟩ := trodAll_cons r0
    obtain ⟨rfl, rfl, rfl⟩ := trodAll_nil r1
    obtain rfl : args = #[v0, v1] := by cases args; simp_all
    obtain ⟨s0, rfl, hd0, _, w0⟩ := open_string Tryd.underlying9 (hval 0 9 v0 rfl rfl) h0
    have hz0 : s0.size ≤ reachBytes := by
      have h1 := List.all_eq_true.1 hsz s0.size (by
        show s0.size ∈ DataW.weightsEach Tryd.prog Tryd.f5.params.toList [d0, d1]
        rw [Tryd.params5]
        refine DataW.weights_mem_each (j := 0) (t := 9) (d := d0) rfl rfl s0.size ?_
        rw [hd0]
        simp [DataW.weights])
      simpa using h1
    obtain ⟨m1, h1'⟩ := h1
    have hz1 : ∀ z ∈ d1.weights Tryd.prog 29, z ≤ reachBytes := fun z hz => by
      have h1 := List.all_eq_true.1 hsz z (by
        show z ∈ DataW.weightsEach Tryd.prog Tryd.f5.params.toList [d0, d1]
        rw [Tryd.params5]
        exact DataW.weights_mem_each (j := 1) (t := 29) (d := d1) rfl rfl z hz)
      simpa using h1
    obtain ⟨a1, n1, c1, rfl, _⟩ := okWide_slice Tryd.underlying29 (hval 1 29 v1 rfl rfl)
    obtain ⟨l1, hl1⟩ := open_texts h1' hz1
    exact (suseBlocks_walk s0 l1 a1 n1 c1 W hz0 hl1).mono fun e W' ⟨he, hc⟩ => ⟨he, hc⟩

theorem suseBlocks_holds : Rows.SuseBlocksSaid :=
  OpenClaim.holds_of_wide 5 Tryd.f5 rfl rfl rfl rfl rfl rfl rfl ⟨rfl, rfl, rfl, rfl, rfl⟩ rfl rfl rfl rfl rfl (by kernel_rfl) Tryd.func5 (by kernel_rfl)
    (of_decide_eq_true (by kernel_rfl)) (by unfold Func.isWrapper; first | (rw [if_pos (by decide +kernel)]; kernel_rfl) | (rw [if_neg (by decide +kernel)]; exact ⟨rfl, rfl⟩))
    (fun os started H enc _ => suseBlocks_lifted os started H enc)

theorem suseBlocksCard_holds : Rows.SuseBlocksCardSaid :=
  Claim7.holds_tied_plain_at .later [] [.data, .pinned] true (true, "98b02f3cf4399086acaf5e16997147c073daacdbc8af23af2e41a089026042de") true
    suseBlocks_holds (fun _ h => by cases h) (by kernel_rfl) (fun _ h => by cases h) suseBlocks_row_tie rfl ⟨rfl, rfl⟩ (by kernel_rfl) rfl
    (fun f fn hf hfn => by
      obtain rfl : f = 5 := Option.some.inj ((show Tryd.prog.funcNamed Rows.suseBlocksRow.func = some 5 by kernel_rfl).symm.trans hf) |>.symm
      obtain rfl : fn = Tryd.f5 := (Option.some.inj (Tryd.func5.symm.trans hfn)).symm
      exact ⟨by kernel_rfl, fun j t ht => by
        rw [Tryd.params5] at ht
        have hm : t ∈ [9, 29] := by simpa using Array.mem_of_getElem? ht
        have hall : ([9, 29].all fun u => !Tryd.prog.wantsStandIn u) = true := by kernel_rfl
        exact (show Tryd.prog.wantsStandIn t = false by simpa using List.all_eq_true.1 hall t hm)⟩)
    (by kernel_rfl)
#print axioms suseBlocksCard_holds
end Go.Proofs.YtjcefgjgjhdbpaaDoor
