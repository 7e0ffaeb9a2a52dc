/-
  SuseBack, the second form: where what comes in is of bulk at most 1048576, the law returns true; each argument reads as it did (with the library's listed tables as the program's text lays them); and its tied card. No conditions beyond the statement's own.
-/
import Derived.Test.YtjcefgjgjhdbpaaGreatDoorBkC
import Derived.Test.YtjcefgjgjhdbpaaGreatDoorFrameUptoLaid
import Derived.Test.YtjcefgjgjhdbpaaGreatDoorCards
import Derived.Test.YtjcefgjgjhdbpaaGreatDoorTie
import Derived.Lay
import Derived.SevenTiedAt
import Derived.Stop.Joined
namespace Go.Proofs.YtjcefgjgjhdbpaaGreatDoor
set_option linter.unusedVariables false
set_option linter.unusedSimpArgs false
open Go.ChangeShapes Go.WideShapes Go.ChangeAt Go.RowKit
open Go.ChangeMaps (open_string shut_string)

theorem ownSuseBackU : ownKnob Tryz.prog.godebug = none := by kernel_rfl
theorem suseBack_laidAll (os : Os) : laidMet Tryz.prog Rows.suseBackUptoRow.laid ((World.laidAll Tryz.prog os Rows.suseBackUptoRow.laid).forCall (fun _ _ => 0) ⟨#[], #[.slice none 0 0], []⟩).memory :=
  laidMet_laidAll _ (by kernel_rfl) (by kernel_rfl)
theorem suseBack_reads (os : Os) {H : Type} (enc : TypeId × Value → H) : ∃ places, DataW.whole enc Tryz.prog ((World.laidAll Tryz.prog os Rows.suseBackUptoRow.laid).forCall (fun _ _ => 0) ⟨#[], #[.slice none 0 0], []⟩).memory Tryz.f4.params.toList Rows.suseBackSpec.vars false (#[.slice none 0 0] : Array Value).toList 8 = some ([.nil], [], places) :=
  ⟨[], by kernel_rfl⟩

set_option maxRecDepth 100000 in
theorem suseBack_liftedU (os : Os) (started : os.Started) (H : Type) (enc : TypeId × Value → H) (F : Stop.Interp) :
    ReturnsInHanded {} Tryz.checked os 4 .any ((Rows.OpenSpec.upto Rows.suseBackSpec).preRow enc Tryz.prog Tryz.f4 Rows.suseBackUptoRow.domain false Rows.suseBackUptoRow.laid) (((Rows.OpenSpec.upto Rows.suseBackSpec).at F).post enc Tryz.prog Tryz.f4 false true false false) := by
  obtain ⟨places, hx⟩ := suseBack_reads os enc
  refine law_lifted_uptolaid (C := Tryz.checked) ownSuseBackU started (by kernel_rfl) Tryz.func4
    (witness_row_at (enc := enc) (C := Tryz.checked) false (World.laidAll Tryz.prog os Rows.suseBackUptoRow.laid) #[.slice none 0 0] (World.laidAll_os _ _ _) (by kernel_rfl) (by kernel_rfl) (by kernel_rfl)
      (OpenSpec.preRow_of_cond 8 hx (by kernel_rfl) (fun k hk => by cases hk; kernel_rfl) (by kernel_rfl) (suseBack_laidAll os))) rfl 4 rfl Tryz.underlying4 ?_ laidOut ?_ ?_
  · intro ds hds
    match ds, hds with
    | [d0], _ => exact ⟨rfl, rfl, rfl⟩
  · intro t ht
    have ht' : t ∈ Tryz.f4.params.toList := ht
    rw [Tryz.params4] at ht'
    have hall : ([23].all fun u => Tryz.prog.readableRec u && decide (u < Tryz.prog.types.size)) = true := by kernel_rfl
    have h2 := List.all_eq_true.1 hall t ht'
    rw [Bool.and_eq_true] at h2
    exact ⟨h2.1, of_decide_eq_true h2.2⟩
  · intro W base args ds p hval0 hA hbulk hL hsh
    have hA' : DataW.TrodAll enc Tryz.prog W 0 (fun _ => true) true Tryz.f4.params.toList args.toList ds p := hA
    have hval : ∀ (j : Nat) t v, Tryz.f4.params[j]? = some t → args[j]? = some v → Value.okWide Tryz.prog W .any base t v := hval0
    rw [Tryz.params4] at hA' hval
    obtain ⟨v0, vs0, d0, ds0, p0, q0, hargs, rfl, rfl, h0, r0⟩ := trodAll_cons hA'
    obtain ⟨rfl, rfl, rfl⟩ := trodAll_nil r0
    obtain rfl : args = #[v0] := by cases args; simp_all
    simp only [Rows.uptoBulkAll] at hbulk
    obtain ⟨m0, h0'⟩ := h0
    obtain ⟨a0, n0, c0, rfl, _⟩ := okWide_slice Tryz.underlying23 (hval 0 23 v0 rfl rfl)
    obtain ⟨l0, hl0, _⟩ := open_pkgs h0' (weights_reach (d := d0) (by omega) (of_decide_eq_true (by kernel_rfl)))
    have hnum : ∀ p ∈ l0, ∀ i, ∀ d ∈ depsL p i, nparts d ≤ Rows.uptoBulk d0 := pkgs_num h0' hl0
    exact (suseBack_walk l0 a0 n0 c0 W hl0 (fun p hp i d hd => Nat.le_trans (hnum p hp i d hd) (by omega))).mono fun e W' ⟨he, hc⟩ => ⟨he, hc⟩

theorem suseBackUpto_holds : Rows.SuseBackUptoSaid :=
  OpenClaim.holds_of_cond 4 Tryz.f4 rfl rfl rfl rfl rfl rfl rfl ⟨rfl, rfl, rfl, rfl, rfl⟩ rfl rfl rfl rfl rfl (by kernel_rfl) Tryz.func4 (by kernel_rfl)
    (of_decide_eq_true (by kernel_rfl)) (by unfold Func.isWrapper; first | (rw [if_pos (by decide +kernel)]; kernel_rfl) | (rw [if_neg (by decide +kernel)]; exact ⟨rfl, rfl⟩))
    (fun os started H enc _ F => by rw [OpenClaim.pre_eq_preRow]; exact suseBack_liftedU os started H enc F)

theorem suseBackUptoCard_holds : Rows.SuseBackUptoCardSaid :=
  Claim7.holds_tied_plain_at .later [] _ _ _ _ suseBackUpto_holds (fun _ h => by cases h) (by kernel_rfl) (fun _ h => by cases h) suseBackUpto_row_tie rfl ⟨rfl, rfl⟩ (by kernel_rfl) rfl
    (fun f fn hf hfn => by
      obtain rfl : f = 4 := Option.some.inj ((show Tryz.prog.funcNamed Rows.suseBackUptoRow.func = some 4 by kernel_rfl).symm.trans hf) |>.symm
      obtain rfl : fn = Tryz.f4 := (Option.some.inj (Tryz.func4.symm.trans hfn)).symm
      exact ⟨by kernel_rfl, fun j t ht => by
      rw [Tryz.params4] at ht
      have hm : t ∈ [23] := by simpa using Array.mem_of_getElem? ht
      have hall : ([23].all fun u => !Tryz.prog.wantsStandIn u) = true := by kernel_rfl
      exact (show Tryz.prog.wantsStandIn t = false by simpa using List.all_eq_true.1 hall t hm)⟩)
    (by kernel_rfl)
#print axioms suseBackUptoCard_holds
end Go.Proofs.YtjcefgjgjhdbpaaGreatDoor
