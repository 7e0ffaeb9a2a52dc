/-
  NamesFull: for every input the law returns true (with the library's listed tables as the program's text lays them); and its tied card. No further conditions.
-/
import Derived.Test.YthjhjifihhhphaaDoorLawB
import Derived.Test.YthjhjifihhhphaaDoorFrameLaid
import Derived.Test.YthjhjifihhhphaaDoorCards
import Derived.Test.YthjhjifihhhphaaDoorTie
import Derived.SevenTiedAt
import Derived.Stop.LaidErr
namespace Go.Proofs.YthjhjifihhhphaaDoor
set_option linter.unusedVariables false
set_option linter.unusedSimpArgs false
open Go.ChangeShapes Go.WideShapes Go.ChangeAt Go.RowKit

theorem ownNamesFull : ownKnob Tryd.prog.godebug = none := by kernel_rfl

/-- The door's own heap meets the condition. -/
theorem door_met (os : Os) (args : Array Value) : laidMetH Tryd.prog Rows.namesFullRow.laid ((World.doorLaid Tryd.prog 400 os).forCall (fun _ _ => 0) ⟨#[], args, []⟩).memory :=
  laidMetH_of_parts3 (fuel := 8) (laidMet_of_run' 8 (by kernel_rfl) (by kernel_rfl)) (by kernel_rfl) (by kernel_rfl)

theorem pow_of_laid {W : World} (h : laidMetH Tryd.prog Rows.namesFullRow.laid W) : Lib.TabIs Tryd.prog W "internal/strconv.uint64pow10" .u64 Lib.pow10Tab := by
  rw [MakeChecks.laidMetH_plain _ _ _ (by kernel_rfl)] at h
  have h2 : laidMet Tryd.prog (("internal/strconv.uint64pow10", Lib.tabData .u64 Lib.pow10Tab) :: []) W := laidMet.tail (laidMet.tail h)
  exact Lib.tabIs_of_head (g := 0) (t := 51) (e := 43) (n := 20) (by kernel_rfl) (by kernel_rfl) Tryd.underlying51 Tryd.underlying43 (by kernel_rfl) (by kernel_rfl) h2

set_option maxRecDepth 100000 in
theorem namesFull_lifted (os : Os) (started : os.Started) (H : Type) (enc : TypeId × Value → H) :
    ReturnsInHanded {} Tryd.checked os 3 .any (fun w args => (Rows.namesFullSpec.pre enc Tryd.prog Tryd.f3 [] false w args ∧ laidMetH Tryd.prog Rows.namesFullRow.laid w) ∧ sizedMet enc Tryd.prog Tryd.f3 (OpenSpec.ofChange Rows.namesFullSpec) false w args)
      (Rows.namesFullSpec.post enc Tryd.prog Tryd.f3 false true false false) := by
  refine law_lifted_laid (C := Tryd.checked) ownNamesFull started (by kernel_rfl) Tryd.func3
    (ChangeSpec.witness_shaped (enc := enc) (C := Tryd.checked) (os := os) (X := fun w _ => laidMetH Tryd.prog Rows.namesFullRow.laid w) false (World.doorLaid Tryd.prog 400 os) #[] 8 rfl (World.shaped_of_RefB (by kernel_rfl) (by kernel_rfl)) (by kernel_rfl) (by kernel_rfl) (by kernel_rfl) (door_met os _)) rfl 4 rfl Tryd.underlying4 ?_ laidOut ?_ ?_
  · intro ds hds
    match ds, hds with
    | [], _ => exact ⟨rfl, rfl, rfl⟩
  · intro t ht
    simp [Tryd.params3] at ht
  · intro W base args ds p hval hA hsz hL
    have hA' : DataW.TrodAll enc Tryd.prog W 0 (fun _ => true) true Tryd.f3.params.toList args.toList ds p := hA
    rw [Tryd.params3] at hA'
    obtain ⟨h1, rfl, rfl⟩ := trodAll_none hA'
    obtain rfl : args = #[] := by simpa using h1
    exact (namesFull_walk W (pow_of_laid hL)).mono fun e W' ⟨he, hc⟩ => ⟨he, hc.below (Nat.le_refl _) (fun _ h => h.elim)⟩

theorem namesFull_holds : Rows.NamesFullSaid :=
  OpenClaim.holds_of_wide 3 Tryd.f3 rfl rfl rfl rfl rfl rfl rfl ⟨rfl, rfl, rfl, rfl, rfl⟩ rfl rfl rfl rfl rfl (by kernel_rfl) Tryd.func3 (by kernel_rfl)
    (of_decide_eq_true (by kernel_rfl)) (by unfold Func.isWrapper; first | (rw [if_pos (by decide +kernel)]; kernel_rfl) | (rw [if_neg (by decide +kernel)]; exact ⟨rfl, rfl⟩))
    (fun os started H enc _ => namesFull_lifted os started H enc)

theorem namesFullCard_holds : Rows.NamesFullCardSaid :=
  Claim7.holds_tied_plain_at .later [] [.data, .data, .data] true (true, "d50f27731dd6aa2fc5780b46a8502c05f523aba6c786e5d2c48f3bc1d95b1926") false
    namesFull_holds (fun _ h => by cases h) (by kernel_rfl) (fun _ h => by cases h) namesFull_row_tie rfl ⟨rfl, rfl⟩ (by kernel_rfl) rfl
    (fun f fn hf hfn => by
      obtain rfl : f = 3 := Option.some.inj ((show Tryd.prog.funcNamed "chandler/chandlerlaw02.NamesFull" = some 3 by kernel_rfl).symm.trans hf) |>.symm
      obtain rfl : fn = Tryd.f3 := (Option.some.inj (Tryd.func3.symm.trans hfn)).symm
      exact ⟨by kernel_rfl, fun j t ht => by
        rw [Tryd.params3] at ht
        simp at ht⟩)
    (by kernel_rfl)
#print axioms namesFullCard_holds
end Go.Proofs.YthjhjifihhhphaaDoor
