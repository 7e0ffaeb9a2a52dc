/-
  How versions' parts compare, both, Compare, as the document has them: the contracts. Helper text (printed by mk_refG.py); the conditions are those typed.
-/
import Derived.Test.YtgggbjkgpjcklaaDoorRefF
namespace Go.Proofs.YtgggbjkgpjcklaaDoor
set_option linter.unusedVariables false
set_option linter.unusedSimpArgs false
open Go.RowKit

theorem or0_ne {r : ByteArray} (h : ¬ r.size = 0) : or0 (bs r) = bs r := if_neg (fun e => h (bs_nil.1 e))
theorem or0_nil : or0 (bs ⟨#[]⟩) = bs ⟨#[48]⟩ := rfl

set_option maxHeartbeats 4000000 in
set_option maxRecDepth 100000 in
theorem rparts_deb (e1 v1 r1 e2 v2 r2 : ByteArray) (he1 : e1.size ≤ maxLen) (he2 : e2.size ≤ maxLen) (hv1 : v1.size ≤ maxLen) (hv2 : v2.size ≤ maxLen) (hr1 : r1.size ≤ maxLen) (hr2 : r2.size ≤ maxLen) (w : World) :
    Calls Tryd.prog 34 #[.int .i64 2, .agg #[.string e1, .string v1, .string r1], .agg #[.string e2, .string v2, .string r2]] w fun e w' =>
      e = .returned (.tuple #[.int .i64 (or2 (cmpN (bs e1) (bs e2)) (debT (bs v1) (bs v2))), .int .i64 (debT (or0 (bs r1)) (or0 (bs r2)))]) ∧ Below w.heap.size w w' := by
  have HN := Lib.hid (number_c e1 e2 he1 he2)
  have HD := Lib.hid (rdeb_c v1 v2 hv1 hv2)
  clear he1 he2 hv1 hv2
  have hr1' : r1.size ≤ 9223372036854775807 := hr1
  have hr2' : r2.size ≤ 9223372036854775807 := hr2
  generalize cmpN (bs e1) (bs e2) = c at *
  generalize debT (bs v1) (bs v2) = d at *
  by_cases hc : c = 0
  · subst hc
    rw [show or2 0 d = d from if_neg (by simp)]
    by_cases h1 : r1.size = 0
    · obtain rfl := bs_zero h1
      by_cases h2 : r2.size = 0
      · obtain rfl := bs_zero h2
        have hbx := boxes2 w e1 v1 ⟨#[]⟩ e2 v2 ⟨#[]⟩
        have HX := Lib.hid hbx
        clear hbx
        have HD2 := Lib.hid (rdeb_c ⟨#[48]⟩ ⟨#[48]⟩ (by decide) (by decide))
        have e3 : or0 (bs ⟨#[]⟩) = bs ⟨#[48]⟩ := or0_nil
        have e4 : or0 (bs ⟨#[]⟩) = bs ⟨#[48]⟩ := or0_nil
        rw [e3]
        clear e3 e4
        generalize debT (bs ⟨#[48]⟩) (bs ⟨#[48]⟩) = d2 at *
        go_enter Tryd.func34, Tryd.ntmps34
        go_wp2_with fail
        refine (HN.out _).mono ?_
        rintro e w' ⟨rfl, rfl⟩
        go_wp2_with fail
        refine (HD.out _).mono ?_
        rintro e w1 ⟨rfl, hb⟩
        have x1 := HX.out.1.below hb
        have x2 := HX.out.2.below hb
        have HB := Lib.hid ((below2 w _ _).trans (below_to hb (by simp; omega)))
        obtain ⟨_, _, _, _, _, _, _⟩ := x1
        obtain ⟨_, _, _, _, _, _, _⟩ := x2
        clear hb
        go_wp2_with fail
        refine (HD2.out _).mono ?_
        rintro e w2 ⟨rfl, hb⟩
        go_wp2
        go_ret2
        exact ⟨rfl, HB.out.trans (below_to hb HB.out.size)⟩
      · have hh := Lib.hid h2
        have hbx := boxes2 w e1 v1 ⟨#[]⟩ e2 v2 r2
        have HX := Lib.hid hbx
        clear hbx
        have HD2 := Lib.hid (rdeb_c ⟨#[48]⟩ r2 (by decide) (by exact hr2))
        have e3 : or0 (bs ⟨#[]⟩) = bs ⟨#[48]⟩ := or0_nil
        have e4 : or0 (bs r2) = bs r2 := or0_ne h2
        rw [e3, e4]
        clear e3 e4
        have n2 := bs_nonempty (s := r2) (by omega)
        generalize debT (bs ⟨#[48]⟩) (bs r2) = d2 at *
        go_enter Tryd.func34, Tryd.ntmps34
        go_wp2_with fail
        refine (HN.out _).mono ?_
        rintro e w' ⟨rfl, rfl⟩
        go_wp2_with fail
        refine (HD.out _).mono ?_
        rintro e w1 ⟨rfl, hb⟩
        have x1 := HX.out.1.below hb
        have x2 := HX.out.2.below hb
        have HB := Lib.hid ((below2 w _ _).trans (below_to hb (by simp; omega)))
        obtain ⟨_, _, _, _, _, _, _⟩ := x1
        obtain ⟨_, _, _, _, _, _, _⟩ := x2
        clear hb
        go_wp2_with fail
        refine (HD2.out _).mono ?_
        rintro e w2 ⟨rfl, hb⟩
        go_wp2
        go_ret2
        exact ⟨rfl, HB.out.trans (below_to hb HB.out.size)⟩
    · by_cases h2 : r2.size = 0
      · obtain rfl := bs_zero h2
        have hbx := boxes2 w e1 v1 r1 e2 v2 ⟨#[]⟩
        have HX := Lib.hid hbx
        clear hbx
        have HD2 := Lib.hid (rdeb_c r1 ⟨#[48]⟩ (by exact hr1) (by decide))
        have e3 : or0 (bs r1) = bs r1 := or0_ne h1
        have e4 : or0 (bs ⟨#[]⟩) = bs ⟨#[48]⟩ := or0_nil
        rw [e3, e4]
        clear e3 e4
        have n1 := bs_nonempty (s := r1) (by omega)
        generalize debT (bs r1) (bs ⟨#[48]⟩) = d2 at *
        go_enter Tryd.func34, Tryd.ntmps34
        go_wp2_with fail
        refine (HN.out _).mono ?_
        rintro e w' ⟨rfl, rfl⟩
        go_wp2_with fail
        refine (HD.out _).mono ?_
        rintro e w1 ⟨rfl, hb⟩
        have x1 := HX.out.1.below hb
        have x2 := HX.out.2.below hb
        have HB := Lib.hid ((below2 w _ _).trans (below_to hb (by simp; omega)))
        obtain ⟨_, _, _, _, _, _, _⟩ := x1
        obtain ⟨_, _, _, _, _, _, _⟩ := x2
        clear hb
        go_wp2_with fail
        refine (HD2.out _).mono ?_
        rintro e w2 ⟨rfl, hb⟩
        go_wp2
        go_ret2
        exact ⟨rfl, HB.out.trans (below_to hb HB.out.size)⟩
      · have hh := Lib.hid h2
        have hbx := boxes2 w e1 v1 r1 e2 v2 r2
        have HX := Lib.hid hbx
        clear hbx
        have HD2 := Lib.hid (rdeb_c r1 r2 (by exact hr1) (by exact hr2))
        have e3 : or0 (bs r1) = bs r1 := or0_ne h1
        have e4 : or0 (bs r2) = bs r2 := or0_ne h2
        rw [e3, e4]
        clear e3 e4
        have n1 := bs_nonempty (s := r1) (by omega)
        have n2 := bs_nonempty (s := r2) (by omega)
        generalize debT (bs r1) (bs r2) = d2 at *
        go_enter Tryd.func34, Tryd.ntmps34
        go_wp2_with fail
        refine (HN.out _).mono ?_
        rintro e w' ⟨rfl, rfl⟩
        go_wp2_with fail
        refine (HD.out _).mono ?_
        rintro e w1 ⟨rfl, hb⟩
        have x1 := HX.out.1.below hb
        have x2 := HX.out.2.below hb
        have HB := Lib.hid ((below2 w _ _).trans (below_to hb (by simp; omega)))
        obtain ⟨_, _, _, _, _, _, _⟩ := x1
        obtain ⟨_, _, _, _, _, _, _⟩ := x2
        clear hb
        go_wp2_with fail
        refine (HD2.out _).mono ?_
        rintro e w2 ⟨rfl, hb⟩
        go_wp2
        go_ret2
        exact ⟨rfl, HB.out.trans (below_to hb HB.out.size)⟩
  · rw [show or2 c d = c from if_pos hc]
    have hcB : (c == 0) = false := by simpa using hc
    clear hc
    by_cases h1 : r1.size = 0
    · obtain rfl := bs_zero h1
      by_cases h2 : r2.size = 0
      · obtain rfl := bs_zero h2
        have hbx := boxes2 w e1 v1 ⟨#[]⟩ e2 v2 ⟨#[]⟩
        have HX := Lib.hid hbx
        clear hbx
        have HD2 := Lib.hid (rdeb_c ⟨#[48]⟩ ⟨#[48]⟩ (by decide) (by decide))
        have e3 : or0 (bs ⟨#[]⟩) = bs ⟨#[48]⟩ := or0_nil
        have e4 : or0 (bs ⟨#[]⟩) = bs ⟨#[48]⟩ := or0_nil
        rw [e3]
        clear e3 e4
        generalize debT (bs ⟨#[48]⟩) (bs ⟨#[48]⟩) = d2 at *
        go_enter Tryd.func34, Tryd.ntmps34
        go_wp2_with fail
        refine (HN.out _).mono ?_
        rintro e w' ⟨rfl, rfl⟩
        go_wp2_with fail
        refine (HD2.out _).mono ?_
        rintro e w2 ⟨rfl, hb⟩
        go_wp2
        go_ret2
        exact ⟨rfl, (below2 w _ _).trans (below_to hb (by simp; omega))⟩
      · have hh := Lib.hid h2
        have hbx := boxes2 w e1 v1 ⟨#[]⟩ e2 v2 r2
        have HX := Lib.hid hbx
        clear hbx
        have HD2 := Lib.hid (rdeb_c ⟨#[48]⟩ r2 (by decide) (by exact hr2))
        have e3 : or0 (bs ⟨#[]⟩) = bs ⟨#[48]⟩ := or0_nil
        have e4 : or0 (bs r2) = bs r2 := or0_ne h2
        rw [e3, e4]
        clear e3 e4
        have n2 := bs_nonempty (s := r2) (by omega)
        generalize debT (bs ⟨#[48]⟩) (bs r2) = d2 at *
        go_enter Tryd.func34, Tryd.ntmps34
        go_wp2_with fail
        refine (HN.out _).mono ?_
        rintro e w' ⟨rfl, rfl⟩
        go_wp2_with fail
        refine (HD2.out _).mono ?_
        rintro e w2 ⟨rfl, hb⟩
        go_wp2
        go_ret2
        exact ⟨rfl, (below2 w _ _).trans (below_to hb (by simp; omega))⟩
    · by_cases h2 : r2.size = 0
      · obtain rfl := bs_zero h2
        have hbx := boxes2 w e1 v1 r1 e2 v2 ⟨#[]⟩
        have HX := Lib.hid hbx
        clear hbx
        have HD2 := Lib.hid (rdeb_c r1 ⟨#[48]⟩ (by exact hr1) (by decide))
        have e3 : or0 (bs r1) = bs r1 := or0_ne h1
        have e4 : or0 (bs ⟨#[]⟩) = bs ⟨#[48]⟩ := or0_nil
        rw [e3, e4]
        clear e3 e4
        have n1 := bs_nonempty (s := r1) (by omega)
        generalize debT (bs r1) (bs ⟨#[48]⟩) = d2 at *
        go_enter Tryd.func34, Tryd.ntmps34
        go_wp2_with fail
        refine (HN.out _).mono ?_
        rintro e w' ⟨rfl, rfl⟩
        go_wp2_with fail
        refine (HD2.out _).mono ?_
        rintro e w2 ⟨rfl, hb⟩
        go_wp2
        go_ret2
        exact ⟨rfl, (below2 w _ _).trans (below_to hb (by simp; omega))⟩
      · have hh := Lib.hid h2
        have hbx := boxes2 w e1 v1 r1 e2 v2 r2
        have HX := Lib.hid hbx
        clear hbx
        have HD2 := Lib.hid (rdeb_c r1 r2 (by exact hr1) (by exact hr2))
        have e3 : or0 (bs r1) = bs r1 := or0_ne h1
        have e4 : or0 (bs r2) = bs r2 := or0_ne h2
        rw [e3, e4]
        clear e3 e4
        have n1 := bs_nonempty (s := r1) (by omega)
        have n2 := bs_nonempty (s := r2) (by omega)
        generalize debT (bs r1) (bs r2) = d2 at *
        go_enter Tryd.func34, Tryd.ntmps34
        go_wp2_with fail
        refine (HN.out _).mono ?_
        rintro e w' ⟨rfl, rfl⟩
        go_wp2_with fail
        refine (HD2.out _).mono ?_
        rintro e w2 ⟨rfl, hb⟩
        go_wp2
        go_ret2
        exact ⟨rfl, (below2 w _ _).trans (below_to hb (by simp; omega))⟩

set_option maxHeartbeats 4000000 in
set_option maxRecDepth 100000 in
theorem rparts_rpm (k : Int) (hk : k ≠ 2) (e1 v1 r1 e2 v2 r2 : ByteArray) (he1 : e1.size ≤ maxLen) (he2 : e2.size ≤ maxLen) (hv1 : v1.size ≤ maxLen) (hv2 : v2.size ≤ maxLen) (hr1 : r1.size ≤ maxLen) (hr2 : r2.size ≤ maxLen) (w : World) :
    Calls Tryd.prog 34 #[.int .i64 k, .agg #[.string e1, .string v1, .string r1], .agg #[.string e2, .string v2, .string r2]] w fun e w' =>
      e = .returned (.tuple #[.int .i64 (or2 (cmpN (bs e1) (bs e2)) (rpmT (bs v1) (bs v2))), .int .i64 (relS r1 r2)]) ∧ Below w.heap.size w w' := by
  have HN := Lib.hid (number_c e1 e2 he1 he2)
  have HD := Lib.hid (rrpm_c v1 v2 hv1 hv2)
  have hB : (k == 2) = false := by simpa using hk
  clear hk
  clear he1 he2 hv1 hv2
  have hr1' : r1.size ≤ 9223372036854775807 := hr1
  have hr2' : r2.size ≤ 9223372036854775807 := hr2
  generalize cmpN (bs e1) (bs e2) = c at *
  generalize rpmT (bs v1) (bs v2) = d at *
  by_cases hc : c = 0
  · subst hc
    rw [show or2 0 d = d from if_neg (by simp)]
    by_cases h1 : r1.size = 0
    · obtain rfl := bs_zero h1
      by_cases h2 : r2.size = 0
      · obtain rfl := bs_zero h2
        have hbx := boxes2 w e1 v1 ⟨#[]⟩ e2 v2 ⟨#[]⟩
        have HX := Lib.hid hbx
        clear hbx
        rw [show relS ⟨#[]⟩ ⟨#[]⟩ = 0 from rfl]
        have hsg := sign_c 0
        rw [show sgn 0 = 0 from rfl] at hsg
        have HSG := Lib.hid hsg
        clear hsg
        go_enter Tryd.func34, Tryd.ntmps34
        go_wp2_with fail
        refine (HN.out _).mono ?_
        rintro e w' ⟨rfl, rfl⟩
        go_wp2_with fail
        refine (HD.out _).mono ?_
        rintro e w1 ⟨rfl, hb⟩
        have x1 := HX.out.1.below hb
        have x2 := HX.out.2.below hb
        have HB := Lib.hid ((below2 w _ _).trans (below_to hb (by simp; omega)))
        obtain ⟨_, _, _, _, _, _, _⟩ := x1
        obtain ⟨_, _, _, _, _, _, _⟩ := x2
        clear hb
        go_wp2_with fail
        refine (HSG.out _).mono ?_
        rintro e w' ⟨rfl, rfl⟩
        go_wp2
        go_ret2
        exact ⟨rfl, HB.out⟩
      · have hh := Lib.hid h2
        have hbx := boxes2 w e1 v1 ⟨#[]⟩ e2 v2 r2
        have HX := Lib.hid hbx
        clear hbx
        rw [relS_l h2]
        have n2 := bs_nonempty (s := r2) (by omega)
        have hsg := sign_c (0 - (r2.size : Int))
        rw [show sgn (0 - (r2.size : Int)) = -1 from if_pos (by omega), Int.zero_sub] at hsg
        have HSG := Lib.hid hsg
        clear hsg
        go_enter Tryd.func34, Tryd.ntmps34
        go_wp2_with fail
        refine (HN.out _).mono ?_
        rintro e w' ⟨rfl, rfl⟩
        go_wp2_with fail
        refine (HD.out _).mono ?_
        rintro e w1 ⟨rfl, hb⟩
        have x1 := HX.out.1.below hb
        have x2 := HX.out.2.below hb
        have HB := Lib.hid ((below2 w _ _).trans (below_to hb (by simp; omega)))
        obtain ⟨_, _, _, _, _, _, _⟩ := x1
        obtain ⟨_, _, _, _, _, _, _⟩ := x2
        clear hb
        go_wp2_with fail
        refine (HSG.out _).mono ?_
        rintro e w' ⟨rfl, rfl⟩
        go_wp2
        go_ret2
        exact ⟨rfl, HB.out⟩
    · by_cases h2 : r2.size = 0
      · obtain rfl := bs_zero h2
        have hbx := boxes2 w e1 v1 r1 e2 v2 ⟨#[]⟩
        have HX := Lib.hid hbx
        clear hbx
        rw [relS_r h1]
        have n1 := bs_nonempty (s := r1) (by omega)
        have hsg := sign_c (r1.size : Int)
        rw [show sgn (r1.size : Int) = 1 from (if_neg (by omega)).trans (if_pos (by omega))] at hsg
        have HSG := Lib.hid hsg
        clear hsg
        go_enter Tryd.func34, Tryd.ntmps34
        go_wp2_with fail
        refine (HN.out _).mono ?_
        rintro e w' ⟨rfl, rfl⟩
        go_wp2_with fail
        refine (HD.out _).mono ?_
        rintro e w1 ⟨rfl, hb⟩
        have x1 := HX.out.1.below hb
        have x2 := HX.out.2.below hb
        have HB := Lib.hid ((below2 w _ _).trans (below_to hb (by simp; omega)))
        obtain ⟨_, _, _, _, _, _, _⟩ := x1
        obtain ⟨_, _, _, _, _, _, _⟩ := x2
        clear hb
        go_wp2_with fail
        refine (HSG.out _).mono ?_
        rintro e w' ⟨rfl, rfl⟩
        go_wp2
        go_ret2
        exact ⟨rfl, HB.out⟩
      · have hh := Lib.hid h2
        have hbx := boxes2 w e1 v1 r1 e2 v2 r2
        have HX := Lib.hid hbx
        clear hbx
        rw [relS_n h1 h2]
        have HD2 := Lib.hid (rrpm_c r1 r2 hr1 hr2)
        generalize rpmT (bs r1) (bs r2) = d2 at *
        have n1 := bs_nonempty (s := r1) (by omega)
        have n2 := bs_nonempty (s := r2) (by omega)
        go_enter Tryd.func34, Tryd.ntmps34
        go_wp2_with fail
        refine (HN.out _).mono ?_
        rintro e w' ⟨rfl, rfl⟩
        go_wp2_with fail
        refine (HD.out _).mono ?_
        rintro e w1 ⟨rfl, hb⟩
        have x1 := HX.out.1.below hb
        have x2 := HX.out.2.below hb
        have HB := Lib.hid ((below2 w _ _).trans (below_to hb (by simp; omega)))
        obtain ⟨_, _, _, _, _, _, _⟩ := x1
        obtain ⟨_, _, _, _, _, _, _⟩ := x2
        clear hb
        go_wp2_with fail
        refine (HD2.out _).mono ?_
        rintro e w2 ⟨rfl, hb⟩
        go_wp2
        go_ret2
        exact ⟨rfl, HB.out.trans (below_to hb HB.out.size)⟩
  · rw [show or2 c d = c from if_pos hc]
    have hcB : (c == 0) = false := by simpa using hc
    clear hc
    by_cases h1 : r1.size = 0
    · obtain rfl := bs_zero h1
      by_cases h2 : r2.size = 0
      · obtain rfl := bs_zero h2
        have hbx := boxes2 w e1 v1 ⟨#[]⟩ e2 v2 ⟨#[]⟩
        have HX := Lib.hid hbx
        clear hbx
        rw [show relS ⟨#[]⟩ ⟨#[]⟩ = 0 from rfl]
        have hsg := sign_c 0
        rw [show sgn 0 = 0 from rfl] at hsg
        have HSG := Lib.hid hsg
        clear hsg
        go_enter Tryd.func34, Tryd.ntmps34
        go_wp2_with fail
        refine (HN.out _).mono ?_
        rintro e w' ⟨rfl, rfl⟩
        go_wp2_with fail
        refine (HSG.out _).mono ?_
        rintro e w' ⟨rfl, rfl⟩
        go_wp2
        go_ret2
        exact ⟨rfl, below2 w _ _⟩
      · have hh := Lib.hid h2
        have hbx := boxes2 w e1 v1 ⟨#[]⟩ e2 v2 r2
        have HX := Lib.hid hbx
        clear hbx
        rw [relS_l h2]
        have n2 := bs_nonempty (s := r2) (by omega)
        have hsg := sign_c (0 - (r2.size : Int))
        rw [show sgn (0 - (r2.size : Int)) = -1 from if_pos (by omega), Int.zero_sub] at hsg
        have HSG := Lib.hid hsg
        clear hsg
        go_enter Tryd.func34, Tryd.ntmps34
        go_wp2_with fail
        refine (HN.out _).mono ?_
        rintro e w' ⟨rfl, rfl⟩
        go_wp2_with fail
        refine (HSG.out _).mono ?_
        rintro e w' ⟨rfl, rfl⟩
        go_wp2
        go_ret2
        exact ⟨rfl, below2 w _ _⟩
    · by_cases h2 : r2.size = 0
      · obtain rfl := bs_zero h2
        have hbx := boxes2 w e1 v1 r1 e2 v2 ⟨#[]⟩
        have HX := Lib.hid hbx
        clear hbx
        rw [relS_r h1]
        have n1 := bs_nonempty (s := r1) (by omega)
        have hsg := sign_c (r1.size : Int)
        rw [show sgn (r1.size : Int) = 1 from (if_neg (by omega)).trans (if_pos (by omega))] at hsg
        have HSG := Lib.hid hsg
        clear hsg
        go_enter Tryd.func34, Tryd.ntmps34
        go_wp2_with fail
        refine (HN.out _).mono ?_
        rintro e w' ⟨rfl, rfl⟩
        go_wp2_with fail
        refine (HSG.out _).mono ?_
        rintro e w' ⟨rfl, rfl⟩
        go_wp2
        go_ret2
        exact ⟨rfl, below2 w _ _⟩
      · have hh := Lib.hid h2
        have hbx := boxes2 w e1 v1 r1 e2 v2 r2
        have HX := Lib.hid hbx
        clear hbx
        rw [relS_n h1 h2]
        have HD2 := Lib.hid (rrpm_c r1 r2 hr1 hr2)
        generalize rpmT (bs r1) (bs r2) = d2 at *
        have n1 := bs_nonempty (s := r1) (by omega)
        have n2 := bs_nonempty (s := r2) (by omega)
        go_enter Tryd.func34, Tryd.ntmps34
        go_wp2_with fail
        refine (HN.out _).mono ?_
        rintro e w' ⟨rfl, rfl⟩
        go_wp2_with fail
        refine (HD2.out _).mono ?_
        rintro e w2 ⟨rfl, hb⟩
        go_wp2
        go_ret2
        exact ⟨rfl, (below2 w _ _).trans (below_to hb (by simp; omega))⟩

theorem rparts_c (k : Int) (e1 v1 r1 e2 v2 r2 : ByteArray) (he1 : e1.size ≤ maxLen) (he2 : e2.size ≤ maxLen) (hv1 : v1.size ≤ maxLen) (hv2 : v2.size ≤ maxLen) (hr1 : r1.size ≤ maxLen) (hr2 : r2.size ≤ maxLen) (w : World) :
    Calls Tryd.prog 34 #[.int .i64 k, .agg #[.string e1, .string v1, .string r1], .agg #[.string e2, .string v2, .string r2]] w fun e w' =>
      e = .returned (.tuple #[.int .i64 (partsC k (bs e1, bs v1, bs r1) (bs e2, bs v2, bs r2)).1, .int .i64 (partsC k (bs e1, bs v1, bs r1) (bs e2, bs v2, bs r2)).2]) ∧ Below w.heap.size w w' := by
  by_cases hk : k = 2
  · subst hk
    exact rparts_deb e1 v1 r1 e2 v2 r2 he1 he2 hv1 hv2 hr1 hr2 w
  · have := rparts_rpm k hk e1 v1 r1 e2 v2 r2 he1 he2 hv1 hv2 hr1 hr2 w
    rw [relS_eq] at this
    unfold partsC
    rw [if_neg hk]
    exact this
end Go.Proofs.YtgggbjkgpjcklaaDoor
