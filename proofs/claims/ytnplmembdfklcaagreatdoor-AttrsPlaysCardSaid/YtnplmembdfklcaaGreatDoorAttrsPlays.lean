/-
  AttrsPlays: for every input the law returns true (with the library's listed tables as the program's text lays them); and its tied card. No further conditions.
-/
import Derived.Test.YtnplmembdfklcaaGreatDoorLawP
import Derived.Test.YtnplmembdfklcaaGreatDoorArgOps
import Derived.Test.YtnplmembdfklcaaGreatDoorFrameLaidS
import Derived.Test.YtnplmembdfklcaaGreatDoorCards
import Derived.Test.YtnplmembdfklcaaGreatDoorTie
import Derived.Lay
import Derived.SevenTiedAt
import Derived.Stop.Joined
import Derived.Stop.LaidErr
namespace Go.Proofs.YtnplmembdfklcaaGreatDoor
set_option linter.unusedVariables false
set_option linter.unusedSimpArgs false
open Go.ChangeShapes Go.WideShapes Go.ChangeAt Go.RowKit
open Go.ChangeMaps (open_string shut_string)

theorem laidOut : laidOutB Tryz.prog = true := by kernel_rfl
theorem pow_of_laid {W : World} (h : laidMetH Tryz.prog Rows.attrsPlaysRow.laid W) : Lib.TabIs Tryz.prog W "internal/strconv.uint64pow10" .u64 Lib.pow10Tab := by
  rw [MakeChecks.laidMetH_plain _ _ _ (by kernel_rfl)] at h
  have h2 : laidMet Tryz.prog (("internal/strconv.uint64pow10", Lib.tabData .u64 Lib.pow10Tab) :: ("unicode/utf8.acceptRanges", Rows.laid_unicode_utf8_acceptRanges) :: ("unicode/utf8.first", Rows.laid_unicode_utf8_first) :: []) W := laidMet.tail (laidMet.tail h)
  exact Lib.tabIs_of_head (g := 1) (t := 169) (e := 123) (n := 20) (by kernel_rfl) (by kernel_rfl) Tryz.underlying169 Tryz.underlying123 (by kernel_rfl) (by kernel_rfl) h2

theorem ownAttrsPlays : ownKnob Tryz.prog.godebug = none := by kernel_rfl

set_option maxRecDepth 100000 in
theorem attrsPlays_lifted (os : Os) (started : os.Started) (H : Type) (enc : TypeId × Value → H) :
    ReturnsInHanded {} Tryz.checked os 3 .any (fun w args => (Rows.attrsPlaysSpec.pre enc Tryz.prog Tryz.f3 [] false w args ∧ laidMetH Tryz.prog Rows.attrsPlaysRow.laid w) ∧ sizedMet enc Tryz.prog Tryz.f3 (OpenSpec.ofChange Rows.attrsPlaysSpec) false w args)
      (Rows.attrsPlaysSpec.post enc Tryz.prog Tryz.f3 false true false false) := by
  refine law_lifted_laids (C := Tryz.checked) ownAttrsPlays started (by kernel_rfl) Tryz.func3
    (ChangeSpec.witness_shaped (enc := enc) (C := Tryz.checked) (os := os) (X := fun w _ => laidMetH Tryz.prog Rows.attrsPlaysRow.laid w) false (World.laidAll Tryz.prog os Rows.attrsPlaysRow.laid) #[.slice none 0 0] 8 (World.laidAll_os _ _ _) (World.shaped_of_ZipB (by kernel_rfl) (by kernel_rfl)) (by kernel_rfl) (by kernel_rfl) (by kernel_rfl)
      (by rw [MakeChecks.laidMetH_plain _ _ _ (by kernel_rfl)]; exact laidMet_laidAll _ (by kernel_rfl) (by kernel_rfl))) rfl 4 rfl Tryz.underlying4 ?_ laidOut ?_ ?_
  · intro ds hds
    match ds, hds with
    | [d0], _ => exact ⟨rfl, rfl, rfl⟩
  · intro t ht
    have ht' : t ∈ Tryz.f3.params.toList := ht
    rw [Tryz.params3] at ht'
    have hall : ([22].all fun u => Tryz.prog.readableRec u && decide (u < Tryz.prog.types.size)) = true := by kernel_rfl
    have h2 := List.all_eq_true.1 hall t ht'
    rw [Bool.and_eq_true] at h2
    exact ⟨h2.1, of_decide_eq_true h2.2⟩
  · intro W base args ds p hval0 hA hsz hL hsh
    have hA' : DataW.TrodAll enc Tryz.prog W 0 (fun _ => true) true Tryz.f3.params.toList args.toList ds p := hA
    have hval : ∀ (j : Nat) t v, Tryz.f3.params[j]? = some t → args[j]? = some v → Value.okWide Tryz.prog W .any base t v := hval0
    rw [Tryz.params3] at hA' hval
    obtain ⟨v0, vs0, d0, ds0, p0, q0, hargs, rfl, rfl, h0, r0⟩ := trodAll_cons hA'
    obtain ⟨rfl, rfl, rfl⟩ := trodAll_nil r0
    obtain rfl : args = #[v0] := by cases args; simp_all
    obtain ⟨m0, h0'⟩ := h0
    have hz0 : ∀ z ∈ d0.weights Tryz.prog 22, z ≤ reachBytes := fun z hz => by
      have h1 := List.all_eq_true.1 hsz z (by
        show z ∈ DataW.weightsEach Tryz.prog Tryz.f3.params.toList [d0]
        rw [Tryz.params3]
        exact DataW.weights_mem_each (j := 0) (t := 22) (d := d0) rfl rfl z hz)
      simpa using h1
    obtain ⟨a0, n0, c0, rfl, _⟩ := okWide_slice Tryz.underlying22 (hval 0 22 v0 rfl rfl)
    obtain ⟨l0, hl0⟩ := open_ops h0' hz0
    exact (plays_walk l0 a0 n0 c0 W hl0 (MaxLenC.of_shaped hsh) (pow_of_laid hL)).mono fun e W' ⟨he, hc⟩ => ⟨he, hc⟩

theorem attrsPlays_holds : Rows.AttrsPlaysSaid :=
  OpenClaim.holds_of_wide 3 Tryz.f3 rfl rfl rfl rfl rfl rfl rfl ⟨rfl, rfl, rfl, rfl, rfl⟩ rfl rfl rfl rfl rfl (by kernel_rfl) Tryz.func3 (by kernel_rfl)
    (of_decide_eq_true (by kernel_rfl)) (by unfold Func.isWrapper; first | (rw [if_pos (by decide +kernel)]; kernel_rfl) | (rw [if_neg (by decide +kernel)]; exact ⟨rfl, rfl⟩))
    (fun os started H enc _ => attrsPlays_lifted os started H enc)

theorem attrsPlaysCard_holds : Rows.AttrsPlaysCardSaid :=
  Claim7.holds_tied_plain_at .later [] [.data, .data, .data, .data, .pinned] true (true, "96ea1145d6aca0c3e00fff00fbab2c7d565dda5dd75c29f9b1b6104887dae92d") false
    attrsPlays_holds (fun _ h => by cases h) (by kernel_rfl) (fun _ h => by cases h) attrsPlays_row_tie rfl ⟨rfl, rfl⟩ (by kernel_rfl) rfl
    (fun f fn hf hfn => by
      obtain rfl : f = 3 := Option.some.inj ((show Tryz.prog.funcNamed Rows.attrsPlaysRow.func = some 3 by kernel_rfl).symm.trans hf) |>.symm
      obtain rfl : fn = Tryz.f3 := (Option.some.inj (Tryz.func3.symm.trans hfn)).symm
      exact ⟨by kernel_rfl, fun j t ht => by
        rw [Tryz.params3] at ht
        have hm : t ∈ [22] := by simpa using Array.mem_of_getElem? ht
        have hall : ([22].all fun u => !Tryz.prog.wantsStandIn u) = true := by kernel_rfl
        exact (show Tryz.prog.wantsStandIn t = false by simpa using List.all_eq_true.1 hall t hm)⟩)
    (by kernel_rfl)
#print axioms attrsPlaysCard_holds
end Go.Proofs.YtnplmembdfklcaaGreatDoor
