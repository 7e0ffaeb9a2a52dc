/-
  The walk of EvrMeets: it answers true. Helper text; the conditions are those typed.
-/
import Derived.Test.YtgggbjkgpjcklaaDoorRefK
namespace Go.Proofs.YtgggbjkgpjcklaaDoor
set_option linter.unusedVariables false
set_option linter.unusedSimpArgs false
open Go.RowKit

theorem partsC_anti (k : Int) (x y : Parts) : partsC k y x = (-(partsC k x y).1, -(partsC k x y).2) := by
  have h1 := cmpN_cmp.anti x.1 y.1
  have h2 := debT_cmp.anti x.2.1 y.2.1
  have h3 := rpmT_cmp.anti x.2.1 y.2.1
  have h4 := debT_cmp.anti (or0 x.2.2) (or0 y.2.2)
  have h5 := relR_cmp.anti x.2.2 y.2.2
  unfold relR at h5
  unfold partsC
  simp only [h1, h2, h3, h4]
  split
  · refine Prod.ext ?_ rfl
    simp only
    split <;> split <;> first | rfl | omega
  · refine Prod.ext ?_ h5
    simp only
    split <;> split <;> first | rfl | omega
theorem relP_anti (k : Int) (x y : Parts) : relP k y x = -relP k x y := by
  unfold relP
  rw [partsC_anti k x y]
  simp only
  by_cases h : (partsC k x y).1 = 0
  · by_cases h1 : x.2.2 = []
    · rw [if_neg (fun e => e.2.2 h1), if_neg (fun e => e.2.1 h1)]
    · by_cases h2 : y.2.2 = []
      · rw [if_neg (fun e => e.2.1 h2), if_neg (fun e => e.2.2 h2)]
      · rw [if_pos ⟨by omega, h2, h1⟩, if_pos ⟨h, h1, h2⟩]
  · rw [if_neg (fun e => h (by have := e.1; omega)), if_neg (fun e => h e.1)]
theorem meetsC_turn (op o c : Int) : meetsC o op (-c) = meetsC op o c := by
  rcases Int.lt_trichotomy c 0 with h | h | h
  · rw [meetsC_gt (by omega), meetsC_lt h, Bool.or_comm]
  · subst h
    rw [show (-0 : Int) = 0 from rfl, meetsC_eq, meetsC_eq, Bool.and_comm (decide (o / 2 % 2 = 1)), Bool.and_comm (decide (o % 2 = 1)), Bool.and_comm (decide (o / 4 % 2 = 1))]
  · rw [meetsC_lt (by omega), meetsC_gt h, Bool.or_comm]
theorem meetsE_turn (k op o : Int) (a b : List UInt8) : meetsE k o b op a = meetsE k op a o b := by
  by_cases hb : badArgs k op o
  · have hb' : badArgs k o op := by unfold badArgs at hb ⊢; omega
    rw [meetsE_bad hb, meetsE_bad hb']
  · have hb' : ¬ badArgs k o op := by unfold badArgs at hb ⊢; omega
    by_cases h0 : op = 0 ∨ o = 0
    · rw [meetsE_zero hb h0, meetsE_zero hb' (by omega)]
    · have h0' : ¬ (o = 0 ∨ op = 0) := by omega
      cases ha : parse a with
      | none => rw [meetsE_none hb h0 (.inl ha), meetsE_none hb' h0' (.inr ha)]
      | some x =>
        cases hbp : parse b with
        | none => rw [meetsE_none hb h0 (.inr hbp), meetsE_none hb' h0' (.inl hbp)]
        | some y => rw [meetsE_ok hb h0 ha hbp, meetsE_ok hb' h0' hbp ha, relP_anti, meetsC_turn]
theorem meets_walk (k op : Int) (a : ByteArray) (o : Int) (b : ByteArray) (ha : a.size ≤ maxLen) (hb : b.size ≤ maxLen) (w : World) :
    Calls Tryd.prog 6 #[.int .i64 k, .int .i64 op, .string a, .int .i64 o, .string b] w fun en w' => en = .returned (.bool true) ∧ Below w.heap.size w w' := by
  have H0 := Lib.hid awake_c
  have H1 := Lib.hid (evrMeets_c k op o a b ha hb)
  have H2 := Lib.hid (rMeets_c k op o a b ha hb)
  have h3 := evrMeets_c k o op b a hb ha
  rw [meetsE_turn] at h3
  have H3 := Lib.hid h3
  clear h3
  generalize (meetsE k op (bs a) o (bs b)).1 = c at *
  generalize (meetsE k op (bs a) o (bs b)).2 = e0 at *
  go_enter Tryd.func6, Tryd.ntmps6
  go_wp2_with fail
  refine (H0.out _).mono ?_
  rintro e w1 ⟨rfl, hb⟩
  have HB1 := Lib.hid hb
  clear hb
  go_wp2_with fail
  refine (H1.out _).mono ?_
  rintro e w2 ⟨rfl, hb⟩
  have HB2 := Lib.hid (below_tr HB1.out hb)
  clear hb HB1
  go_wp2_with fail
  refine (H2.out _).mono ?_
  rintro e w3 ⟨rfl, hb⟩
  have HB3 := Lib.hid (below_tr HB2.out hb)
  clear hb HB2
  go_wp2_with fail
  refine (H3.out _).mono ?_
  rintro e w4 ⟨rfl, hb⟩
  have HB4 := Lib.hid (below_tr HB3.out hb)
  clear hb HB3
  go_wp2
  go_ret
  exact ⟨rfl, HB4.out⟩
end Go.Proofs.YtgggbjkgpjcklaaDoor
