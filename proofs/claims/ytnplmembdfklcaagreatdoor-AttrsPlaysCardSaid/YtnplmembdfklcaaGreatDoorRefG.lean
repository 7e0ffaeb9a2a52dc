/-
  SameTexts: the walk. Helper text; the conditions are those typed.
-/
import Derived.Test.YtnplmembdfklcaaGreatDoorRefE
import Derived.Deep.RegionHeld3
namespace Go.Proofs.YtnplmembdfklcaaGreatDoor
set_option linter.unusedVariables false
set_option linter.unusedSimpArgs false
open Go.RowKit Go.Maps

set_option maxHeartbeats 1000000 in
set_option maxRecDepth 100000 in
theorem same_c (w : World) (a b : Option Addr) (n m ca cb : Nat) (l r : List ByteArray) (hl : l.length = n) (hr : r.length = m) (ha : TxtsAt w a l) (hb : TxtsAt w b r) (hn : n ≤ maxLen) :
    Calls Tryz.prog 9 #[.slice a n ca, .slice b m cb] w fun e w' => e = .returned (.bool (decide (l = r))) ∧ Below w.heap.size w w' := by
  have HA := Lib.hid ha
  have HB := Lib.hid hb
  have HN := Lib.hid hl
  have HM := Lib.hid hr
  have hnm : n ≤ 9223372036854775807 := hn
  clear ha hb hl hr
  by_cases hq : n = m
  · subst hq
    have hq0 : ((n : Int) != (n : Int)) = false := by simp
    go_enter Tryz.func9, Tryz.ntmps9
    go_wp2_with fail
    go_loopw [5] (fun v5 wr => ∃ i : Nat, v5 = .int .i64 i ∧ i ≤ n ∧ Hid (w.heap = wr.heap) ∧ Hid (Below w.heap.size w wr) ∧ Hid (l.take i = r.take i)) (fun v5 _ => n - (intOf v5).toNat)
    case atStart => exact ⟨0, rfl, Nat.zero_le _, rfl, Below.refl _ _, rfl⟩
    case round =>
      obtain ⟨i, rfl, hi, hh, HBL, HP⟩ := hrel
      by_cases hlt : i < n
      · have hi1 : (i : Int) < (n : Int) := by omega
        have hi0 : (0 : Int) ≤ (i : Int) := by omega
        have hil : i < l.length := by have := HN.out; omega
        have hir : i < r.length := by have := HM.out; omega
        obtain ⟨ba, oa, rfl, ka⟩ := HA.out.cell hil
        obtain ⟨bb, ob, rfl, kb⟩ := HB.out.cell hir
        rw [← cell_heap hh.out.symm] at ka kb
        have HST : Hid (l[i] = r[i] → l.take (i + 1) = r.take (i + 1)) := fun e => by
          rw [List.take_succ_eq_append_getElem hil, List.take_succ_eq_append_getElem hir, HP.out, e]
        have HNE : Hid (l[i] ≠ r[i] → l ≠ r) := fun h e => h (by subst e; rfl)
        generalize l[i] = x at ka HST HNE
        generalize r[i] = y at kb HST HNE
        by_cases hxy : x = y
        · have hb0 : (x.toList == y.toList) = true := by rw [beqS, decide_eq_true hxy]
          have HST1 := Lib.hid (HST.out hxy)
          replace hxy := Lib.hid hxy
          go_upto_region 6 with fail
          go_region_held3 (fun W => Below w.heap.size w W ∧ W.heap = w.heap ∧ W.cell? ⟨ba, oa + i, none⟩ = some (.string x) ∧ W.cell? ⟨bb, ob + i, none⟩ = some (.string y))
            (exact ⟨HBL.out.drew, hh.out.symm, ka, kb⟩) (fail)
          go_wp2_with fail
          go_roundw
          case rel => exact ⟨i + 1, by go_num, by omega, hh.out, HBL.out.drew, HST1.out⟩
          case measure => simp [intOf]; omega
        · have hb0 : (x.toList == y.toList) = false := by rw [beqS, decide_eq_false hxy]
          have HST1 : Hid (decide (l = r) = false) := decide_eq_false (HNE.out hxy)
          replace hxy := Lib.hid hxy
          go_upto_region 6 with fail
          go_region_held3 (fun W => Below w.heap.size w W ∧ W.heap = w.heap ∧ W.cell? ⟨ba, oa + i, none⟩ = some (.string x) ∧ W.cell? ⟨bb, ob + i, none⟩ = some (.string y))
            (exact ⟨HBL.out.drew, hh.out.symm, ka, kb⟩) (fail)
          go_wp2_with fail
          go_ret
          exact ⟨by rw [HST1.out]; rfl, HBL.out.drew⟩
      · have hi1 : ¬ (i : Int) < (n : Int) := by omega
        obtain rfl : i = n := by omega
        have HST1 : Hid (decide (l = r) = true) := decide_eq_true (by
          have := HP.out
          rw [List.take_of_length_le (by have := HN.out; omega), List.take_of_length_le (by have := HM.out; omega)] at this
          exact this)
        go_wp2_with fail
        go_ret
        exact ⟨by rw [HST1.out]; rfl, HBL.out⟩
  · have hq0 : ((n : Int) != (m : Int)) = true := bne_iff_ne.2 (by omega)
    have HST1 : Hid (decide (l = r) = false) := decide_eq_false (fun e => hq (by rw [← HN.out, ← HM.out, e]))
    go_enter Tryz.func9, Tryz.ntmps9
    go_wp2_with fail
    go_ret
    exact ⟨by rw [HST1.out]; rfl, Below.refl _ _⟩
end Go.Proofs.YtnplmembdfklcaaGreatDoor
