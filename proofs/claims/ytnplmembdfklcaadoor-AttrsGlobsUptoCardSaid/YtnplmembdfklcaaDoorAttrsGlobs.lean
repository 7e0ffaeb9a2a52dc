/-
  AttrsGlobs, the second form: where what comes in is of bulk at most 1048576, the law returns true; each argument reads as it did (with the library's listed tables as the program's text lays them); and its tied card. No conditions beyond the statement's own.
-/
import Derived.Test.YtnplmembdfklcaaDoorLawB
import Derived.Test.YtnplmembdfklcaaDoorFrameUptoLaid
import Derived.Test.YtnplmembdfklcaaDoorCards
import Derived.Test.YtnplmembdfklcaaDoorTie
import Derived.Lay
import Derived.SevenTiedAt
import Derived.Stop.Joined
namespace Go.Proofs.YtnplmembdfklcaaDoor
set_option linter.unusedVariables false
set_option linter.unusedSimpArgs false
open Go.ChangeShapes Go.WideShapes Go.ChangeAt Go.RowKit
open Go.ChangeMaps (open_string shut_string)

theorem ownAttrsGlobsU : ownKnob Tryd.prog.godebug = none := by kernel_rfl
theorem attrsGlobs_laidAll (os : Os) : laidMet Tryd.prog Rows.attrsGlobsUptoRow.laid ((World.laidAll Tryd.prog os Rows.attrsGlobsUptoRow.laid).forCall (fun _ _ => 0) ⟨#[], #[.string ⟨#[]⟩, .string ⟨#[]⟩, .string ⟨#[]⟩, .string ⟨#[]⟩], []⟩).memory :=
  laidMet_laidAll _ (by kernel_rfl) (by kernel_rfl)
theorem attrsGlobs_reads (os : Os) {H : Type} (enc : TypeId × Value → H) : ∃ places, DataW.whole enc Tryd.prog ((World.laidAll Tryd.prog os Rows.attrsGlobsUptoRow.laid).forCall (fun _ _ => 0) ⟨#[], #[.string ⟨#[]⟩, .string ⟨#[]⟩, .string ⟨#[]⟩, .string ⟨#[]⟩], []⟩).memory Tryd.f5.params.toList Rows.attrsGlobsSpec.vars false (#[.string ⟨#[]⟩, .string ⟨#[]⟩, .string ⟨#[]⟩, .string ⟨#[]⟩] : Array Value).toList 8 = some ([.lit (.string []), .lit (.string []), .lit (.string []), .lit (.string [])], [], places) :=
  ⟨[], by kernel_rfl⟩

set_option maxRecDepth 100000 in
theorem attrsGlobs_liftedU (os : Os) (started : os.Started) (H : Type) (enc : TypeId × Value → H) (F : Stop.Interp) :
    ReturnsInHanded {} Tryd.checked os 5 .any ((Rows.OpenSpec.upto Rows.attrsGlobsSpec).preRow enc Tryd.prog Tryd.f5 Rows.attrsGlobsUptoRow.domain false Rows.attrsGlobsUptoRow.laid) (((Rows.OpenSpec.upto Rows.attrsGlobsSpec).at F).post enc Tryd.prog Tryd.f5 false true false false) := by
  obtain ⟨places, hx⟩ := attrsGlobs_reads os enc
  refine law_lifted_uptolaid (C := Tryd.checked) ownAttrsGlobsU started (by kernel_rfl) Tryd.func5
    (witness_row_at (enc := enc) (C := Tryd.checked) false (World.laidAll Tryd.prog os Rows.attrsGlobsUptoRow.laid) #[.string ⟨#[]⟩, .string ⟨#[]⟩, .string ⟨#[]⟩, .string ⟨#[]⟩] (World.laidAll_os _ _ _) (by kernel_rfl) (by kernel_rfl) (by kernel_rfl)
      (OpenSpec.preRow_of_cond 8 hx (by kernel_rfl) (fun k hk => by cases hk; kernel_rfl) (by kernel_rfl) (attrsGlobs_laidAll os))) rfl 4 rfl Tryd.underlying4 ?_ laidOut ?_ ?_
  · intro ds hds
    match ds, hds with
    | [d0, d1, d2, d3], _ => exact ⟨rfl, rfl, rfl⟩
  · intro t ht
    have ht' : t ∈ Tryd.f5.params.toList := ht
    rw [Tryd.params5] at ht'
    have hall : ([9, 9, 9, 9].all fun u => Tryd.prog.readableRec u && decide (u < Tryd.prog.types.size)) = true := by kernel_rfl
    have h2 := List.all_eq_true.1 hall t ht'
    rw [Bool.and_eq_true] at h2
    exact ⟨h2.1, of_decide_eq_true h2.2⟩
  · intro W base args ds p hval0 hA hbulk hL hsh
    have hA' : DataW.TrodAll enc Tryd.prog W 0 (fun _ => true) true Tryd.f5.params.toList args.toList ds p := hA
    have hval : ∀ (j : Nat) t v, Tryd.f5.params[j]? = some t → args[j]? = some v → Value.okWide Tryd.prog W .any base t v := hval0
    rw [Tryd.params5] at hA' hval
    obtain ⟨v0, vs0, d0, ds0, p0, q0, hargs, rfl, rfl, h0, r0⟩ := trodAll_cons hA'
    obtain ⟨v1, vs1, d1, ds1, p1, q1, rfl, rfl, rfl, h1, r1⟩ := trodAll_cons r0
    obtain ⟨v2, vs2, d2, ds2, p2, q2, rfl, rfl, rfl, h2, r2⟩ := trodAll_cons r1
    obtain ⟨v3, vs3, d3, ds3, p3, q3, rfl, rfl, rfl, h3, r3⟩ := trodAll_cons r2
    obtain ⟨rfl, rfl, rfl⟩ := trodAll_nil r3
    obtain rfl : args = #[v0, v1, v2, v3] := by cases args; simp_all
    obtain ⟨s0, rfl, hd0, _, w0⟩ := open_string Tryd.underlying9 (hval 0 9 v0 rfl rfl) h0
    have z0 : s0.size ≤ 1048576 := by
      have hb := bulk_part (d := d0) (l := [d0, d1, d2, d3]) (by simp)
      have hx : Rows.uptoBulk d0 = s0.data.toList.length + 1 := by
        rw [hd0, bulk_string]
      rw [hx] at hb
      have hl : s0.data.toList.length = s0.size := bs_len s0
      omega
    obtain ⟨s1, rfl, hd1, _, w1⟩ := open_string Tryd.underlying9 (hval 1 9 v1 rfl rfl) h1
    have z1 : s1.size ≤ 1048576 := by
      have hb := bulk_part (d := d1) (l := [d0, d1, d2, d3]) (by simp)
      have hx : Rows.uptoBulk d1 = s1.data.toList.length + 1 := by
        rw [hd1, bulk_string]
      rw [hx] at hb
      have hl : s1.data.toList.length = s1.size := bs_len s1
      omega
    obtain ⟨s2, rfl, hd2, _, w2⟩ := open_string Tryd.underlying9 (hval 2 9 v2 rfl rfl) h2
    have z2 : s2.size ≤ 1048576 := by
      have hb := bulk_part (d := d2) (l := [d0, d1, d2, d3]) (by simp)
      have hx : Rows.uptoBulk d2 = s2.data.toList.length + 1 := by
        rw [hd2, bulk_string]
      rw [hx] at hb
      have hl : s2.data.toList.length = s2.size := bs_len s2
      omega
    obtain ⟨s3, rfl, hd3, _, w3⟩ := open_string Tryd.underlying9 (hval 3 9 v3 rfl rfl) h3
    have z3 : s3.size ≤ 1048576 := by
      have hb := bulk_part (d := d3) (l := [d0, d1, d2, d3]) (by simp)
      have hx : Rows.uptoBulk d3 = s3.data.toList.length + 1 := by
        rw [hd3, bulk_string]
      rw [hx] at hb
      have hl : s3.data.toList.length = s3.size := bs_len s3
      omega
    exact (globs_walk s0 s1 s2 s3 z0 z1 z2 z3 W (MaxLenC.of_shaped hsh)).mono fun e W' ⟨he, hc⟩ => ⟨he, hc⟩

theorem attrsGlobsUpto_holds : Rows.AttrsGlobsUptoSaid :=
  OpenClaim.holds_of_cond 5 Tryd.f5 rfl rfl rfl rfl rfl rfl rfl ⟨rfl, rfl, rfl, rfl, rfl⟩ rfl rfl rfl rfl rfl (by kernel_rfl) Tryd.func5 (by kernel_rfl)
    (of_decide_eq_true (by kernel_rfl)) (by unfold Func.isWrapper; first | (rw [if_pos (by decide +kernel)]; kernel_rfl) | (rw [if_neg (by decide +kernel)]; exact ⟨rfl, rfl⟩))
    (fun os started H enc _ F => by rw [OpenClaim.pre_eq_preRow]; exact attrsGlobs_liftedU os started H enc F)

theorem attrsGlobsUptoCard_holds : Rows.AttrsGlobsUptoCardSaid :=
  Claim7.holds_tied_plain_at .later [] _ _ _ _ attrsGlobsUpto_holds (fun _ h => by cases h) (by kernel_rfl) (fun _ h => by cases h) attrsGlobsUpto_row_tie rfl ⟨rfl, rfl⟩ (by kernel_rfl) rfl
    (fun f fn hf hfn => by
      obtain rfl : f = 5 := Option.some.inj ((show Tryd.prog.funcNamed Rows.attrsGlobsUptoRow.func = some 5 by kernel_rfl).symm.trans hf) |>.symm
      obtain rfl : fn = Tryd.f5 := (Option.some.inj (Tryd.func5.symm.trans hfn)).symm
      exact ⟨by kernel_rfl, fun j t ht => by
      rw [Tryd.params5] at ht
      have hm : t ∈ [9, 9, 9, 9] := by simpa using Array.mem_of_getElem? ht
      have hall : ([9, 9, 9, 9].all fun u => !Tryd.prog.wantsStandIn u) = true := by kernel_rfl
      exact (show Tryd.prog.wantsStandIn t = false by simpa using List.all_eq_true.1 hall t hm)⟩)
    (by kernel_rfl)
#print axioms attrsGlobsUptoCard_holds
end Go.Proofs.YtnplmembdfklcaaDoor
