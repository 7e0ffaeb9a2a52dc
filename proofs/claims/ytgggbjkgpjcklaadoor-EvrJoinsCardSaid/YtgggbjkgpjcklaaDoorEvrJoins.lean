/-
  EvrJoins: for every input the law returns true (with the library's listed tables as the program's text lays them); and its tied card. No further conditions.
-/
import Derived.Test.YtgggbjkgpjcklaaDoorLawJoins
import Derived.Test.YtgggbjkgpjcklaaDoorFrameLaid
import Derived.Test.YtgggbjkgpjcklaaDoorCards
import Derived.Test.YtgggbjkgpjcklaaDoorTie
import Derived.Lay
import Derived.SevenTiedAt
import Derived.Stop.Joined
namespace Go.Proofs.YtgggbjkgpjcklaaDoor
set_option linter.unusedVariables false
set_option linter.unusedSimpArgs false
open Go.ChangeShapes Go.WideShapes Go.ChangeAt Go.RowKit
open Go.ChangeMaps (open_string shut_string)

theorem ownEvrJoins : ownKnob Tryd.prog.godebug = none := by kernel_rfl

set_option maxRecDepth 100000 in
theorem evrJoins_lifted (os : Os) (started : os.Started) (H : Type) (enc : TypeId × Value → H) :
    ReturnsInHanded {} Tryd.checked os 8 .any (fun w args => (Rows.evrJoinsSpec.pre enc Tryd.prog Tryd.f8 [] false w args ∧ laidMetH Tryd.prog Rows.evrJoinsRow.laid w) ∧ sizedMet enc Tryd.prog Tryd.f8 (OpenSpec.ofChange Rows.evrJoinsSpec) false w args)
      (Rows.evrJoinsSpec.post enc Tryd.prog Tryd.f8 false true false false) := by
  refine law_lifted_laid (C := Tryd.checked) ownEvrJoins started (by kernel_rfl) Tryd.func8
    (ChangeSpec.witness_shaped (enc := enc) (C := Tryd.checked) (os := os) (X := fun w _ => laidMetH Tryd.prog Rows.evrJoinsRow.laid w) false (World.laidAll Tryd.prog os Rows.evrJoinsRow.laid) #[.string ⟨#[]⟩, .int .i64 0] 8 (World.laidAll_os _ _ _) (World.shaped_of_ZipB (by kernel_rfl) (by kernel_rfl)) (by kernel_rfl) (by kernel_rfl) (by kernel_rfl)
      (by rw [MakeChecks.laidMetH_plain _ _ _ (by kernel_rfl)]; exact laidMet_laidAll _ (by kernel_rfl) (by kernel_rfl))) rfl 4 rfl Tryd.underlying4 ?_ laidOut ?_ ?_
  · intro ds hds
    match ds, hds with
    | [d0, d1], _ => exact ⟨rfl, rfl, rfl⟩
  · intro t ht
    have ht' : t ∈ Tryd.f8.params.toList := ht
    rw [Tryd.params8] at ht'
    simp at ht'
    rcases ht' with rfl | rfl
    all_goals exact ⟨by kernel_rfl, of_decide_eq_true (by kernel_rfl)⟩
  · intro W base args ds p hval0 hA hsz hL
    have hA' : DataW.TrodAll enc Tryd.prog W 0 (fun _ => true) true Tryd.f8.params.toList args.toList ds p := hA
    have hval : ∀ (j : Nat) t v, Tryd.f8.params[j]? = some t → args[j]? = some v → Value.okWide Tryd.prog W .any base t v := hval0
    rw [Tryd.params8] at hA' hval
    obtain ⟨v0, vs0, d0, ds0, p0, q0, hargs, rfl, rfl, h0, r0⟩ := trodAll_cons hA'
    obtain ⟨v1, vs1, d1, ds1, p1, q1, rfl, rfl, rfl, h1, r1⟩ := trodAll_cons r0
    obtain ⟨rfl, rfl, rfl⟩ := trodAll_nil r1
    obtain rfl : args = #[v0, v1] := by cases args; simp_all
    obtain ⟨s0, rfl, _, _, w0⟩ := open_string Tryd.underlying9 (hval 0 9 v0 rfl rfl) h0
    obtain ⟨x1, rfl, _, _, _⟩ := open_int Tryd.underlying3 (hval 1 3 v1 rfl rfl) h1
    exact (joins_walk s0 x1 w0 W).mono fun e W' ⟨he, hc⟩ => ⟨he, hc⟩

theorem evrJoins_holds : Rows.EvrJoinsSaid :=
  OpenClaim.holds_of_wide 8 Tryd.f8 rfl rfl rfl rfl rfl rfl rfl ⟨rfl, rfl, rfl, rfl, rfl⟩ rfl rfl rfl rfl rfl (by kernel_rfl) Tryd.func8 (by kernel_rfl)
    (of_decide_eq_true (by kernel_rfl)) (by unfold Func.isWrapper; first | (rw [if_pos (by decide +kernel)]; kernel_rfl) | (rw [if_neg (by decide +kernel)]; exact ⟨rfl, rfl⟩))
    (fun os started H enc _ => evrJoins_lifted os started H enc)

theorem evrJoinsCard_holds : Rows.EvrJoinsCardSaid :=
  Claim7.holds_tied_plain_at .later [] [.data, .pinned] true (true, "d85900e72dd25d57aab16654a23e0b86b1d349275f40c356e72fe1d096d54ba2") false
    evrJoins_holds (fun _ h => by cases h) (by kernel_rfl) (fun _ h => by cases h) evrJoins_row_tie rfl ⟨rfl, rfl⟩ (by kernel_rfl) rfl
    (fun f fn hf hfn => by
      obtain rfl : f = 8 := Option.some.inj ((show Tryd.prog.funcNamed Rows.evrJoinsRow.func = some 8 by kernel_rfl).symm.trans hf) |>.symm
      obtain rfl : fn = Tryd.f8 := (Option.some.inj (Tryd.func8.symm.trans hfn)).symm
      exact ⟨by kernel_rfl, fun j t ht => by
        rw [Tryd.params8] at ht
        have hm : t ∈ [9, 3] := by simpa using Array.mem_of_getElem? ht
        have hall : ([9, 3].all fun u => !Tryd.prog.wantsStandIn u) = true := by kernel_rfl
        exact (show Tryd.prog.wantsStandIn t = false by simpa using List.all_eq_true.1 hall t hm)⟩)
    (by kernel_rfl)
#print axioms evrJoinsCard_holds
end Go.Proofs.YtgggbjkgpjcklaaDoor
