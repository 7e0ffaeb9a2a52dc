/-
  Meets, as the document has it, the versions being read, like ones. Helper text (printed by mk_refI.py); the conditions are those typed.
-/
import Derived.Test.YtgggbjkgpjcklaaDoorRefI
namespace Go.Proofs.YtgggbjkgpjcklaaDoor
set_option linter.unusedVariables false
set_option linter.unusedSimpArgs false
open Go.RowKit

set_option maxHeartbeats 8000000 in
theorem rmeets_e1 (k : Int) (hk : k = 1 ∨ k = 2) (op o : Int) (ho : inOp op) (ho' : inOp o) (a b : ByteArray) (e1 v1 e2 v2 r2 : ByteArray) (d : Int) (w : World)
    (hP : ∀ w, Calls Tryd.prog 33 #[.int .i64 k, .string a, .string b] w fun en w' => en = .returned (.tuple #[.agg #[.string e1, .string v1, .string ⟨#[]⟩], .agg #[.string e2, .string v2, .string r2], .int .i64 0]) ∧ Below w.heap.size w w')
    (hQ : ∀ w, Calls Tryd.prog 34 #[.int .i64 k, .agg #[.string e1, .string v1, .string ⟨#[]⟩], .agg #[.string e2, .string v2, .string r2]] w fun e w' => e = .returned (.tuple #[.int .i64 0, .int .i64 d]) ∧ Below w.heap.size w w')
    (res : Bool) (hV : res = meetsC op o 0) :
    Calls Tryd.prog 17 #[.int .i64 k, .int .i64 op, .string a, .int .i64 o, .string b] w fun en w' => en = .returned (.tuple #[.bool res, .int .i64 0]) ∧ Below w.heap.size w w' := by
  have HP := Lib.hid hP
  have HQ := Lib.hid hQ
  clear hP hQ
  obtain ⟨o1, o2⟩ := ho
  obtain ⟨o3, o4⟩ := ho'
  have z1 : (op == 0) = false := beq_eq_false_iff_ne.2 (by omega)
  have z2 : (o == 0) = false := beq_eq_false_iff_ne.2 (by omega)
  have m1 : 0 ≤ op := by omega
  have m2 := o2
  have m3 : 0 ≤ o := by omega
  have m4 := o4
  have K0 := has2 op m1 m2
  by_cases gop2 : op / 2 % 2 = 1
  · rw [decide_eq_true gop2] at K0
    have Kop2 := Lib.hid K0
    clear K0
    have K0 := has2 o m3 m4
    by_cases go2 : o / 2 % 2 = 1
    · rw [decide_eq_true go2] at K0
      have Ko2 := Lib.hid K0
      clear K0
      obtain rfl : res = true := by rw [hV, meetsC_eq]; simp [gop2, go2]
      clear hV gop2 go2
      rcases hk with rfl | rfl
      all_goals
        go_enter Tryd.func17, Tryd.ntmps17
        go_wp2_with fail
        refine (HP.out _).mono ?_
        rintro e w1 ⟨rfl, hb⟩
        have HB := Lib.hid hb
        clear hb
        go_wp2_with fail
        refine (HQ.out _).mono ?_
        rintro e w2 ⟨rfl, hb⟩
        have HB2 := Lib.hid (HB.out.trans (below_to (below_tr (below2 w1 _ _) (below_to hb (by simp))) HB.out.size))
        have hbx := boxes2 w1 e1 v1 ⟨#[]⟩ e2 v2 r2
        have x1 := hbx.1.below hb
        have x2 := hbx.2.below hb
        clear hb hbx
        obtain ⟨_, _, _, _, _, _, _⟩ := x1
        obtain ⟨_, _, _, _, _, _, _⟩ := x2
        go_wp2_with fail
        refine (Kop2.out _).mono ?_
        rintro e w' ⟨rfl, rfl⟩
        go_wp2_with fail
        refine (Ko2.out _).mono ?_
        rintro e w' ⟨rfl, rfl⟩
        go_wp2
        go_ret2
        exact ⟨rfl, HB2.out⟩
    · rw [decide_eq_false go2] at K0
      have Ko2 := Lib.hid K0
      clear K0
      have K0 := has1 op m1 m2
      by_cases gop1 : op % 2 = 1
      · rw [decide_eq_true gop1] at K0
        have Kop1 := Lib.hid K0
        clear K0
        have K0 := has1 o m3 m4
        by_cases go1 : o % 2 = 1
        · rw [decide_eq_true go1] at K0
          have Ko1 := Lib.hid K0
          clear K0
          obtain rfl : res = true := by rw [hV, meetsC_eq]; simp [gop2, go2, gop1, go1]
          clear hV gop2 go2 gop1 go1
          rcases hk with rfl | rfl
          all_goals
            go_enter Tryd.func17, Tryd.ntmps17
            go_wp2_with fail
            refine (HP.out _).mono ?_
            rintro e w1 ⟨rfl, hb⟩
            have HB := Lib.hid hb
            clear hb
            go_wp2_with fail
            refine (HQ.out _).mono ?_
            rintro e w2 ⟨rfl, hb⟩
            have HB2 := Lib.hid (HB.out.trans (below_to (below_tr (below2 w1 _ _) (below_to hb (by simp))) HB.out.size))
            have hbx := boxes2 w1 e1 v1 ⟨#[]⟩ e2 v2 r2
            have x1 := hbx.1.below hb
            have x2 := hbx.2.below hb
            clear hb hbx
            obtain ⟨_, _, _, _, _, _, _⟩ := x1
            obtain ⟨_, _, _, _, _, _, _⟩ := x2
            go_wp2_with fail
            refine (Kop2.out _).mono ?_
            rintro e w' ⟨rfl, rfl⟩
            go_wp2_with fail
            refine (Ko2.out _).mono ?_
            rintro e w' ⟨rfl, rfl⟩
            go_wp2_with fail
            refine (Kop1.out _).mono ?_
            rintro e w' ⟨rfl, rfl⟩
            go_wp2_with fail
            refine (Ko1.out _).mono ?_
            rintro e w' ⟨rfl, rfl⟩
            go_wp2
            go_ret2
            exact ⟨rfl, HB2.out⟩
        · rw [decide_eq_false go1] at K0
          have Ko1 := Lib.hid K0
          clear K0
          have K0 := has4 op m1 m2
          by_cases gop4 : op / 4 % 2 = 1
          · rw [decide_eq_true gop4] at K0
            have Kop4 := Lib.hid K0
            clear K0
            have K0 := has4 o m3 m4
            by_cases go4 : o / 4 % 2 = 1
            · rw [decide_eq_true go4] at K0
              have Ko4 := Lib.hid K0
              clear K0
              obtain rfl : res = true := by rw [hV, meetsC_eq]; simp [gop2, go2, gop1, go1, gop4, go4]
              clear hV gop2 go2 gop1 go1 gop4 go4
              rcases hk with rfl | rfl
              all_goals
                go_enter Tryd.func17, Tryd.ntmps17
                go_wp2_with fail
                refine (HP.out _).mono ?_
                rintro e w1 ⟨rfl, hb⟩
                have HB := Lib.hid hb
                clear hb
                go_wp2_with fail
                refine (HQ.out _).mono ?_
                rintro e w2 ⟨rfl, hb⟩
                have HB2 := Lib.hid (HB.out.trans (below_to (below_tr (below2 w1 _ _) (below_to hb (by simp))) HB.out.size))
                have hbx := boxes2 w1 e1 v1 ⟨#[]⟩ e2 v2 r2
                have x1 := hbx.1.below hb
                have x2 := hbx.2.below hb
                clear hb hbx
                obtain ⟨_, _, _, _, _, _, _⟩ := x1
                obtain ⟨_, _, _, _, _, _, _⟩ := x2
                go_wp2_with fail
                refine (Kop2.out _).mono ?_
                rintro e w' ⟨rfl, rfl⟩
                go_wp2_with fail
                refine (Ko2.out _).mono ?_
                rintro e w' ⟨rfl, rfl⟩
                go_wp2_with fail
                refine (Kop1.out _).mono ?_
                rintro e w' ⟨rfl, rfl⟩
                go_wp2_with fail
                refine (Ko1.out _).mono ?_
                rintro e w' ⟨rfl, rfl⟩
                go_wp2_with fail
                refine (Kop4.out _).mono ?_
                rintro e w' ⟨rfl, rfl⟩
                go_wp2_with fail
                refine (Ko4.out _).mono ?_
                rintro e w' ⟨rfl, rfl⟩
                go_wp2
                go_ret2
                exact ⟨rfl, HB2.out⟩
            · rw [decide_eq_false go4] at K0
              have Ko4 := Lib.hid K0
              clear K0
              obtain rfl : res = false := by rw [hV, meetsC_eq]; simp [gop2, go2, gop1, go1, gop4, go4]
              clear hV gop2 go2 gop1 go1 gop4 go4
              rcases hk with rfl | rfl
              all_goals
                go_enter Tryd.func17, Tryd.ntmps17
                go_wp2_with fail
                refine (HP.out _).mono ?_
                rintro e w1 ⟨rfl, hb⟩
                have HB := Lib.hid hb
                clear hb
                go_wp2_with fail
                refine (HQ.out _).mono ?_
                rintro e w2 ⟨rfl, hb⟩
                have HB2 := Lib.hid (HB.out.trans (below_to (below_tr (below2 w1 _ _) (below_to hb (by simp))) HB.out.size))
                have hbx := boxes2 w1 e1 v1 ⟨#[]⟩ e2 v2 r2
                have x1 := hbx.1.below hb
                have x2 := hbx.2.below hb
                clear hb hbx
                obtain ⟨_, _, _, _, _, _, _⟩ := x1
                obtain ⟨_, _, _, _, _, _, _⟩ := x2
                go_wp2_with fail
                refine (Kop2.out _).mono ?_
                rintro e w' ⟨rfl, rfl⟩
                go_wp2_with fail
                refine (Ko2.out _).mono ?_
                rintro e w' ⟨rfl, rfl⟩
                go_wp2_with fail
                refine (Kop1.out _).mono ?_
                rintro e w' ⟨rfl, rfl⟩
                go_wp2_with fail
                refine (Ko1.out _).mono ?_
                rintro e w' ⟨rfl, rfl⟩
                go_wp2_with fail
                refine (Kop4.out _).mono ?_
                rintro e w' ⟨rfl, rfl⟩
                go_wp2_with fail
                refine (Ko4.out _).mono ?_
                rintro e w' ⟨rfl, rfl⟩
                go_wp2
                go_ret2
                exact ⟨rfl, HB2.out⟩
          · rw [decide_eq_false gop4] at K0
            have Kop4 := Lib.hid K0
            clear K0
            obtain rfl : res = false := by rw [hV, meetsC_eq]; simp [gop2, go2, gop1, go1, gop4]
            clear hV gop2 go2 gop1 go1 gop4
            rcases hk with rfl | rfl
            all_goals
              go_enter Tryd.func17, Tryd.ntmps17
              go_wp2_with fail
              refine (HP.out _).mono ?_
              rintro e w1 ⟨rfl, hb⟩
              have HB := Lib.hid hb
              clear hb
              go_wp2_with fail
              refine (HQ.out _).mono ?_
              rintro e w2 ⟨rfl, hb⟩
              have HB2 := Lib.hid (HB.out.trans (below_to (below_tr (below2 w1 _ _) (below_to hb (by simp))) HB.out.size))
              have hbx := boxes2 w1 e1 v1 ⟨#[]⟩ e2 v2 r2
              have x1 := hbx.1.below hb
              have x2 := hbx.2.below hb
              clear hb hbx
              obtain ⟨_, _, _, _, _, _, _⟩ := x1
              obtain ⟨_, _, _, _, _, _, _⟩ := x2
              go_wp2_with fail
              refine (Kop2.out _).mono ?_
              rintro e w' ⟨rfl, rfl⟩
              go_wp2_with fail
              refine (Ko2.out _).mono ?_
              rintro e w' ⟨rfl, rfl⟩
              go_wp2_with fail
              refine (Kop1.out _).mono ?_
              rintro e w' ⟨rfl, rfl⟩
              go_wp2_with fail
              refine (Ko1.out _).mono ?_
              rintro e w' ⟨rfl, rfl⟩
              go_wp2_with fail
              refine (Kop4.out _).mono ?_
              rintro e w' ⟨rfl, rfl⟩
              go_wp2
              go_ret2
              exact ⟨rfl, HB2.out⟩
      · rw [decide_eq_false gop1] at K0
        have Kop1 := Lib.hid K0
        clear K0
        have K0 := has4 op m1 m2
        by_cases gop4 : op / 4 % 2 = 1
        · rw [decide_eq_true gop4] at K0
          have Kop4 := Lib.hid K0
          clear K0
          have K0 := has4 o m3 m4
          by_cases go4 : o / 4 % 2 = 1
          · rw [decide_eq_true go4] at K0
            have Ko4 := Lib.hid K0
            clear K0
            obtain rfl : res = true := by rw [hV, meetsC_eq]; simp [gop2, go2, gop1, gop4, go4]
            clear hV gop2 go2 gop1 gop4 go4
            rcases hk with rfl | rfl
            all_goals
              go_enter Tryd.func17, Tryd.ntmps17
              go_wp2_with fail
              refine (HP.out _).mono ?_
              rintro e w1 ⟨rfl, hb⟩
              have HB := Lib.hid hb
              clear hb
              go_wp2_with fail
              refine (HQ.out _).mono ?_
              rintro e w2 ⟨rfl, hb⟩
              have HB2 := Lib.hid (HB.out.trans (below_to (below_tr (below2 w1 _ _) (below_to hb (by simp))) HB.out.size))
              have hbx := boxes2 w1 e1 v1 ⟨#[]⟩ e2 v2 r2
              have x1 := hbx.1.below hb
              have x2 := hbx.2.below hb
              clear hb hbx
              obtain ⟨_, _, _, _, _, _, _⟩ := x1
              obtain ⟨_, _, _, _, _, _, _⟩ := x2
              go_wp2_with fail
              refine (Kop2.out _).mono ?_
              rintro e w' ⟨rfl, rfl⟩
              go_wp2_with fail
              refine (Ko2.out _).mono ?_
              rintro e w' ⟨rfl, rfl⟩
              go_wp2_with fail
              refine (Kop1.out _).mono ?_
              rintro e w' ⟨rfl, rfl⟩
              go_wp2_with fail
              refine (Kop4.out _).mono ?_
              rintro e w' ⟨rfl, rfl⟩
              go_wp2_with fail
              refine (Ko4.out _).mono ?_
              rintro e w' ⟨rfl, rfl⟩
              go_wp2
              go_ret2
              exact ⟨rfl, HB2.out⟩
          · rw [decide_eq_false go4] at K0
            have Ko4 := Lib.hid K0
            clear K0
            obtain rfl : res = false := by rw [hV, meetsC_eq]; simp [gop2, go2, gop1, gop4, go4]
            clear hV gop2 go2 gop1 gop4 go4
            rcases hk with rfl | rfl
            all_goals
              go_enter Tryd.func17, Tryd.ntmps17
              go_wp2_with fail
              refine (HP.out _).mono ?_
              rintro e w1 ⟨rfl, hb⟩
              have HB := Lib.hid hb
              clear hb
              go_wp2_with fail
              refine (HQ.out _).mono ?_
              rintro e w2 ⟨rfl, hb⟩
              have HB2 := Lib.hid (HB.out.trans (below_to (below_tr (below2 w1 _ _) (below_to hb (by simp))) HB.out.size))
              have hbx := boxes2 w1 e1 v1 ⟨#[]⟩ e2 v2 r2
              have x1 := hbx.1.below hb
              have x2 := hbx.2.below hb
              clear hb hbx
              obtain ⟨_, _, _, _, _, _, _⟩ := x1
              obtain ⟨_, _, _, _, _, _, _⟩ := x2
              go_wp2_with fail
              refine (Kop2.out _).mono ?_
              rintro e w' ⟨rfl, rfl⟩
              go_wp2_with fail
              refine (Ko2.out _).mono ?_
              rintro e w' ⟨rfl, rfl⟩
              go_wp2_with fail
              refine (Kop1.out _).mono ?_
              rintro e w' ⟨rfl, rfl⟩
              go_wp2_with fail
              refine (Kop4.out _).mono ?_
              rintro e w' ⟨rfl, rfl⟩
              go_wp2_with fail
              refine (Ko4.out _).mono ?_
              rintro e w' ⟨rfl, rfl⟩
              go_wp2
              go_ret2
              exact ⟨rfl, HB2.out⟩
        · rw [decide_eq_false gop4] at K0
          have Kop4 := Lib.hid K0
          clear K0
          obtain rfl : res = false := by rw [hV, meetsC_eq]; simp [gop2, go2, gop1, gop4]
          clear hV gop2 go2 gop1 gop4
          rcases hk with rfl | rfl
          all_goals
            go_enter Tryd.func17, Tryd.ntmps17
            go_wp2_with fail
            refine (HP.out _).mono ?_
            rintro e w1 ⟨rfl, hb⟩
            have HB := Lib.hid hb
            clear hb
            go_wp2_with fail
            refine (HQ.out _).mono ?_
            rintro e w2 ⟨rfl, hb⟩
            have HB2 := Lib.hid (HB.out.trans (below_to (below_tr (below2 w1 _ _) (below_to hb (by simp))) HB.out.size))
            have hbx := boxes2 w1 e1 v1 ⟨#[]⟩ e2 v2 r2
            have x1 := hbx.1.below hb
            have x2 := hbx.2.below hb
            clear hb hbx
            obtain ⟨_, _, _, _, _, _, _⟩ := x1
            obtain ⟨_, _, _, _, _, _, _⟩ := x2
            go_wp2_with fail
            refine (Kop2.out _).mono ?_
            rintro e w' ⟨rfl, rfl⟩
            go_wp2_with fail
            refine (Ko2.out _).mono ?_
            rintro e w' ⟨rfl, rfl⟩
            go_wp2_with fail
            refine (Kop1.out _).mono ?_
            rintro e w' ⟨rfl, rfl⟩
            go_wp2_with fail
            refine (Kop4.out _).mono ?_
            rintro e w' ⟨rfl, rfl⟩
            go_wp2
            go_ret2
            exact ⟨rfl, HB2.out⟩
  · rw [decide_eq_false gop2] at K0
    have Kop2 := Lib.hid K0
    clear K0
    have K0 := has1 op m1 m2
    by_cases gop1 : op % 2 = 1
    · rw [decide_eq_true gop1] at K0
      have Kop1 := Lib.hid K0
      clear K0
      have K0 := has1 o m3 m4
      by_cases go1 : o % 2 = 1
      · rw [decide_eq_true go1] at K0
        have Ko1 := Lib.hid K0
        clear K0
        obtain rfl : res = true := by rw [hV, meetsC_eq]; simp [gop2, gop1, go1]
        clear hV gop2 gop1 go1
        rcases hk with rfl | rfl
        all_goals
          go_enter Tryd.func17, Tryd.ntmps17
          go_wp2_with fail
          refine (HP.out _).mono ?_
          rintro e w1 ⟨rfl, hb⟩
          have HB := Lib.hid hb
          clear hb
          go_wp2_with fail
          refine (HQ.out _).mono ?_
          rintro e w2 ⟨rfl, hb⟩
          have HB2 := Lib.hid (HB.out.trans (below_to (below_tr (below2 w1 _ _) (below_to hb (by simp))) HB.out.size))
          have hbx := boxes2 w1 e1 v1 ⟨#[]⟩ e2 v2 r2
          have x1 := hbx.1.below hb
          have x2 := hbx.2.below hb
          clear hb hbx
          obtain ⟨_, _, _, _, _, _, _⟩ := x1
          obtain ⟨_, _, _, _, _, _, _⟩ := x2
          go_wp2_with fail
          refine (Kop2.out _).mono ?_
          rintro e w' ⟨rfl, rfl⟩
          go_wp2_with fail
          refine (Kop1.out _).mono ?_
          rintro e w' ⟨rfl, rfl⟩
          go_wp2_with fail
          refine (Ko1.out _).mono ?_
          rintro e w' ⟨rfl, rfl⟩
          go_wp2
          go_ret2
          exact ⟨rfl, HB2.out⟩
      · rw [decide_eq_false go1] at K0
        have Ko1 := Lib.hid K0
        clear K0
        have K0 := has4 op m1 m2
        by_cases gop4 : op / 4 % 2 = 1
        · rw [decide_eq_true gop4] at K0
          have Kop4 := Lib.hid K0
          clear K0
          have K0 := has4 o m3 m4
          by_cases go4 : o / 4 % 2 = 1
          · rw [decide_eq_true go4] at K0
            have Ko4 := Lib.hid K0
            clear K0
            obtain rfl : res = true := by rw [hV, meetsC_eq]; simp [gop2, gop1, go1, gop4, go4]
            clear hV gop2 gop1 go1 gop4 go4
            rcases hk with rfl | rfl
            all_goals
              go_enter Tryd.func17, Tryd.ntmps17
              go_wp2_with fail
              refine (HP.out _).mono ?_
              rintro e w1 ⟨rfl, hb⟩
              have HB := Lib.hid hb
              clear hb
              go_wp2_with fail
              refine (HQ.out _).mono ?_
              rintro e w2 ⟨rfl, hb⟩
              have HB2 := Lib.hid (HB.out.trans (below_to (below_tr (below2 w1 _ _) (below_to hb (by simp))) HB.out.size))
              have hbx := boxes2 w1 e1 v1 ⟨#[]⟩ e2 v2 r2
              have x1 := hbx.1.below hb
              have x2 := hbx.2.below hb
              clear hb hbx
              obtain ⟨_, _, _, _, _, _, _⟩ := x1
              obtain ⟨_, _, _, _, _, _, _⟩ := x2
              go_wp2_with fail
              refine (Kop2.out _).mono ?_
              rintro e w' ⟨rfl, rfl⟩
              go_wp2_with fail
              refine (Kop1.out _).mono ?_
              rintro e w' ⟨rfl, rfl⟩
              go_wp2_with fail
              refine (Ko1.out _).mono ?_
              rintro e w' ⟨rfl, rfl⟩
              go_wp2_with fail
              refine (Kop4.out _).mono ?_
              rintro e w' ⟨rfl, rfl⟩
              go_wp2_with fail
              refine (Ko4.out _).mono ?_
              rintro e w' ⟨rfl, rfl⟩
              go_wp2
              go_ret2
              exact ⟨rfl, HB2.out⟩
          · rw [decide_eq_false go4] at K0
            have Ko4 := Lib.hid K0
            clear K0
            obtain rfl : res = false := by rw [hV, meetsC_eq]; simp [gop2, gop1, go1, gop4, go4]
            clear hV gop2 gop1 go1 gop4 go4
            rcases hk with rfl | rfl
            all_goals
              go_enter Tryd.func17, Tryd.ntmps17
              go_wp2_with fail
              refine (HP.out _).mono ?_
              rintro e w1 ⟨rfl, hb⟩
              have HB := Lib.hid hb
              clear hb
              go_wp2_with fail
              refine (HQ.out _).mono ?_
              rintro e w2 ⟨rfl, hb⟩
              have HB2 := Lib.hid (HB.out.trans (below_to (below_tr (below2 w1 _ _) (below_to hb (by simp))) HB.out.size))
              have hbx := boxes2 w1 e1 v1 ⟨#[]⟩ e2 v2 r2
              have x1 := hbx.1.below hb
              have x2 := hbx.2.below hb
              clear hb hbx
              obtain ⟨_, _, _, _, _, _, _⟩ := x1
              obtain ⟨_, _, _, _, _, _, _⟩ := x2
              go_wp2_with fail
              refine (Kop2.out _).mono ?_
              rintro e w' ⟨rfl, rfl⟩
              go_wp2_with fail
              refine (Kop1.out _).mono ?_
              rintro e w' ⟨rfl, rfl⟩
              go_wp2_with fail
              refine (Ko1.out _).mono ?_
              rintro e w' ⟨rfl, rfl⟩
              go_wp2_with fail
              refine (Kop4.out _).mono ?_
              rintro e w' ⟨rfl, rfl⟩
              go_wp2_with fail
              refine (Ko4.out _).mono ?_
              rintro e w' ⟨rfl, rfl⟩
              go_wp2
              go_ret2
              exact ⟨rfl, HB2.out⟩
        · rw [decide_eq_false gop4] at K0
          have Kop4 := Lib.hid K0
          clear K0
          obtain rfl : res = false := by rw [hV, meetsC_eq]; simp [gop2, gop1, go1, gop4]
          clear hV gop2 gop1 go1 gop4
          rcases hk with rfl | rfl
          all_goals
            go_enter Tryd.func17, Tryd.ntmps17
            go_wp2_with fail
            refine (HP.out _).mono ?_
            rintro e w1 ⟨rfl, hb⟩
            have HB := Lib.hid hb
            clear hb
            go_wp2_with fail
            refine (HQ.out _).mono ?_
            rintro e w2 ⟨rfl, hb⟩
            have HB2 := Lib.hid (HB.out.trans (below_to (below_tr (below2 w1 _ _) (below_to hb (by simp))) HB.out.size))
            have hbx := boxes2 w1 e1 v1 ⟨#[]⟩ e2 v2 r2
            have x1 := hbx.1.below hb
            have x2 := hbx.2.below hb
            clear hb hbx
            obtain ⟨_, _, _, _, _, _, _⟩ := x1
            obtain ⟨_, _, _, _, _, _, _⟩ := x2
            go_wp2_with fail
            refine (Kop2.out _).mono ?_
            rintro e w' ⟨rfl, rfl⟩
            go_wp2_with fail
            refine (Kop1.out _).mono ?_
            rintro e w' ⟨rfl, rfl⟩
            go_wp2_with fail
            refine (Ko1.out _).mono ?_
            rintro e w' ⟨rfl, rfl⟩
            go_wp2_with fail
            refine (Kop4.out _).mono ?_
            rintro e w' ⟨rfl, rfl⟩
            go_wp2
            go_ret2
            exact ⟨rfl, HB2.out⟩
    · rw [decide_eq_false gop1] at K0
      have Kop1 := Lib.hid K0
      clear K0
      have K0 := has4 op m1 m2
      by_cases gop4 : op / 4 % 2 = 1
      · rw [decide_eq_true gop4] at K0
        have Kop4 := Lib.hid K0
        clear K0
        have K0 := has4 o m3 m4
        by_cases go4 : o / 4 % 2 = 1
        · rw [decide_eq_true go4] at K0
          have Ko4 := Lib.hid K0
          clear K0
          obtain rfl : res = true := by rw [hV, meetsC_eq]; simp [gop2, gop1, gop4, go4]
          clear hV gop2 gop1 gop4 go4
          rcases hk with rfl | rfl
          all_goals
            go_enter Tryd.func17, Tryd.ntmps17
            go_wp2_with fail
            refine (HP.out _).mono ?_
            rintro e w1 ⟨rfl, hb⟩
            have HB := Lib.hid hb
            clear hb
            go_wp2_with fail
            refine (HQ.out _).mono ?_
            rintro e w2 ⟨rfl, hb⟩
            have HB2 := Lib.hid (HB.out.trans (below_to (below_tr (below2 w1 _ _) (below_to hb (by simp))) HB.out.size))
            have hbx := boxes2 w1 e1 v1 ⟨#[]⟩ e2 v2 r2
            have x1 := hbx.1.below hb
            have x2 := hbx.2.below hb
            clear hb hbx
            obtain ⟨_, _, _, _, _, _, _⟩ := x1
            obtain ⟨_, _, _, _, _, _, _⟩ := x2
            go_wp2_with fail
            refine (Kop2.out _).mono ?_
            rintro e w' ⟨rfl, rfl⟩
            go_wp2_with fail
            refine (Kop1.out _).mono ?_
            rintro e w' ⟨rfl, rfl⟩
            go_wp2_with fail
            refine (Kop4.out _).mono ?_
            rintro e w' ⟨rfl, rfl⟩
            go_wp2_with fail
            refine (Ko4.out _).mono ?_
            rintro e w' ⟨rfl, rfl⟩
            go_wp2
            go_ret2
            exact ⟨rfl, HB2.out⟩
        · rw [decide_eq_false go4] at K0
          have Ko4 := Lib.hid K0
          clear K0
          obtain rfl : res = false := by rw [hV, meetsC_eq]; simp [gop2, gop1, gop4, go4]
          clear hV gop2 gop1 gop4 go4
          rcases hk with rfl | rfl
          all_goals
            go_enter Tryd.func17, Tryd.ntmps17
            go_wp2_with fail
            refine (HP.out _).mono ?_
            rintro e w1 ⟨rfl, hb⟩
            have HB := Lib.hid hb
            clear hb
            go_wp2_with fail
            refine (HQ.out _).mono ?_
            rintro e w2 ⟨rfl, hb⟩
            have HB2 := Lib.hid (HB.out.trans (below_to (below_tr (below2 w1 _ _) (below_to hb (by simp))) HB.out.size))
            have hbx := boxes2 w1 e1 v1 ⟨#[]⟩ e2 v2 r2
            have x1 := hbx.1.below hb
            have x2 := hbx.2.below hb
            clear hb hbx
            obtain ⟨_, _, _, _, _, _, _⟩ := x1
            obtain ⟨_, _, _, _, _, _, _⟩ := x2
            go_wp2_with fail
            refine (Kop2.out _).mono ?_
            rintro e w' ⟨rfl, rfl⟩
            go_wp2_with fail
            refine (Kop1.out _).mono ?_
            rintro e w' ⟨rfl, rfl⟩
            go_wp2_with fail
            refine (Kop4.out _).mono ?_
            rintro e w' ⟨rfl, rfl⟩
            go_wp2_with fail
            refine (Ko4.out _).mono ?_
            rintro e w' ⟨rfl, rfl⟩
            go_wp2
            go_ret2
            exact ⟨rfl, HB2.out⟩
      · rw [decide_eq_false gop4] at K0
        have Kop4 := Lib.hid K0
        clear K0
        obtain rfl : res = false := by rw [hV, meetsC_eq]; simp [gop2, gop1, gop4]
        clear hV gop2 gop1 gop4
        rcases hk with rfl | rfl
        all_goals
          go_enter Tryd.func17, Tryd.ntmps17
          go_wp2_with fail
          refine (HP.out _).mono ?_
          rintro e w1 ⟨rfl, hb⟩
          have HB := Lib.hid hb
          clear hb
          go_wp2_with fail
          refine (HQ.out _).mono ?_
          rintro e w2 ⟨rfl, hb⟩
          have HB2 := Lib.hid (HB.out.trans (below_to (below_tr (below2 w1 _ _) (below_to hb (by simp))) HB.out.size))
          have hbx := boxes2 w1 e1 v1 ⟨#[]⟩ e2 v2 r2
          have x1 := hbx.1.below hb
          have x2 := hbx.2.below hb
          clear hb hbx
          obtain ⟨_, _, _, _, _, _, _⟩ := x1
          obtain ⟨_, _, _, _, _, _, _⟩ := x2
          go_wp2_with fail
          refine (Kop2.out _).mono ?_
          rintro e w' ⟨rfl, rfl⟩
          go_wp2_with fail
          refine (Kop1.out _).mono ?_
          rintro e w' ⟨rfl, rfl⟩
          go_wp2_with fail
          refine (Kop4.out _).mono ?_
          rintro e w' ⟨rfl, rfl⟩
          go_wp2
          go_ret2
          exact ⟨rfl, HB2.out⟩

set_option maxHeartbeats 8000000 in
theorem rmeets_e2 (k : Int) (hk : k = 1 ∨ k = 2) (op o : Int) (ho : inOp op) (ho' : inOp o) (a b : ByteArray) (e1 v1 r1 e2 v2 : ByteArray) (d : Int) (n1 : r1.toList.isEmpty = false) (w : World)
    (hP : ∀ w, Calls Tryd.prog 33 #[.int .i64 k, .string a, .string b] w fun en w' => en = .returned (.tuple #[.agg #[.string e1, .string v1, .string r1], .agg #[.string e2, .string v2, .string ⟨#[]⟩], .int .i64 0]) ∧ Below w.heap.size w w')
    (hQ : ∀ w, Calls Tryd.prog 34 #[.int .i64 k, .agg #[.string e1, .string v1, .string r1], .agg #[.string e2, .string v2, .string ⟨#[]⟩]] w fun e w' => e = .returned (.tuple #[.int .i64 0, .int .i64 d]) ∧ Below w.heap.size w w')
    (res : Bool) (hV : res = meetsC op o 0) :
    Calls Tryd.prog 17 #[.int .i64 k, .int .i64 op, .string a, .int .i64 o, .string b] w fun en w' => en = .returned (.tuple #[.bool res, .int .i64 0]) ∧ Below w.heap.size w w' := by
  have HP := Lib.hid hP
  have HQ := Lib.hid hQ
  clear hP hQ
  obtain ⟨o1, o2⟩ := ho
  obtain ⟨o3, o4⟩ := ho'
  have z1 : (op == 0) = false := beq_eq_false_iff_ne.2 (by omega)
  have z2 : (o == 0) = false := beq_eq_false_iff_ne.2 (by omega)
  have m1 : 0 ≤ op := by omega
  have m2 := o2
  have m3 : 0 ≤ o := by omega
  have m4 := o4
  have K0 := has2 op m1 m2
  by_cases gop2 : op / 2 % 2 = 1
  · rw [decide_eq_true gop2] at K0
    have Kop2 := Lib.hid K0
    clear K0
    have K0 := has2 o m3 m4
    by_cases go2 : o / 2 % 2 = 1
    · rw [decide_eq_true go2] at K0
      have Ko2 := Lib.hid K0
      clear K0
      obtain rfl : res = true := by rw [hV, meetsC_eq]; simp [gop2, go2]
      clear hV gop2 go2
      rcases hk with rfl | rfl
      all_goals
        go_enter Tryd.func17, Tryd.ntmps17
        go_wp2_with fail
        refine (HP.out _).mono ?_
        rintro e w1 ⟨rfl, hb⟩
        have HB := Lib.hid hb
        clear hb
        go_wp2_with fail
        refine (HQ.out _).mono ?_
        rintro e w2 ⟨rfl, hb⟩
        have HB2 := Lib.hid (HB.out.trans (below_to (below_tr (below2 w1 _ _) (below_to hb (by simp))) HB.out.size))
        have hbx := boxes2 w1 e1 v1 r1 e2 v2 ⟨#[]⟩
        have x1 := hbx.1.below hb
        have x2 := hbx.2.below hb
        clear hb hbx
        obtain ⟨_, _, _, _, _, _, _⟩ := x1
        obtain ⟨_, _, _, _, _, _, _⟩ := x2
        go_wp2_with fail
        refine (Kop2.out _).mono ?_
        rintro e w' ⟨rfl, rfl⟩
        go_wp2_with fail
        refine (Ko2.out _).mono ?_
        rintro e w' ⟨rfl, rfl⟩
        go_wp2
        go_ret2
        exact ⟨rfl, HB2.out⟩
    · rw [decide_eq_false go2] at K0
      have Ko2 := Lib.hid K0
      clear K0
      have K0 := has1 op m1 m2
      by_cases gop1 : op % 2 = 1
      · rw [decide_eq_true gop1] at K0
        have Kop1 := Lib.hid K0
        clear K0
        have K0 := has1 o m3 m4
        by_cases go1 : o % 2 = 1
        · rw [decide_eq_true go1] at K0
          have Ko1 := Lib.hid K0
          clear K0
          obtain rfl : res = true := by rw [hV, meetsC_eq]; simp [gop2, go2, gop1, go1]
          clear hV gop2 go2 gop1 go1
          rcases hk with rfl | rfl
          all_goals
            go_enter Tryd.func17, Tryd.ntmps17
            go_wp2_with fail
            refine (HP.out _).mono ?_
            rintro e w1 ⟨rfl, hb⟩
            have HB := Lib.hid hb
            clear hb
            go_wp2_with fail
            refine (HQ.out _).mono ?_
            rintro e w2 ⟨rfl, hb⟩
            have HB2 := Lib.hid (HB.out.trans (below_to (below_tr (below2 w1 _ _) (below_to hb (by simp))) HB.out.size))
            have hbx := boxes2 w1 e1 v1 r1 e2 v2 ⟨#[]⟩
            have x1 := hbx.1.below hb
            have x2 := hbx.2.below hb
            clear hb hbx
            obtain ⟨_, _, _, _, _, _, _⟩ := x1
            obtain ⟨_, _, _, _, _, _, _⟩ := x2
            go_wp2_with fail
            refine (Kop2.out _).mono ?_
            rintro e w' ⟨rfl, rfl⟩
            go_wp2_with fail
            refine (Ko2.out _).mono ?_
            rintro e w' ⟨rfl, rfl⟩
            go_wp2_with fail
            refine (Kop1.out _).mono ?_
            rintro e w' ⟨rfl, rfl⟩
            go_wp2_with fail
            refine (Ko1.out _).mono ?_
            rintro e w' ⟨rfl, rfl⟩
            go_wp2
            go_ret2
            exact ⟨rfl, HB2.out⟩
        · rw [decide_eq_false go1] at K0
          have Ko1 := Lib.hid K0
          clear K0
          have K0 := has4 op m1 m2
          by_cases gop4 : op / 4 % 2 = 1
          · rw [decide_eq_true gop4] at K0
            have Kop4 := Lib.hid K0
            clear K0
            have K0 := has4 o m3 m4
            by_cases go4 : o / 4 % 2 = 1
            · rw [decide_eq_true go4] at K0
              have Ko4 := Lib.hid K0
              clear K0
              obtain rfl : res = true := by rw [hV, meetsC_eq]; simp [gop2, go2, gop1, go1, gop4, go4]
              clear hV gop2 go2 gop1 go1 gop4 go4
              rcases hk with rfl | rfl
              all_goals
                go_enter Tryd.func17, Tryd.ntmps17
                go_wp2_with fail
                refine (HP.out _).mono ?_
                rintro e w1 ⟨rfl, hb⟩
                have HB := Lib.hid hb
                clear hb
                go_wp2_with fail
                refine (HQ.out _).mono ?_
                rintro e w2 ⟨rfl, hb⟩
                have HB2 := Lib.hid (HB.out.trans (below_to (below_tr (below2 w1 _ _) (below_to hb (by simp))) HB.out.size))
                have hbx := boxes2 w1 e1 v1 r1 e2 v2 ⟨#[]⟩
                have x1 := hbx.1.below hb
                have x2 := hbx.2.below hb
                clear hb hbx
                obtain ⟨_, _, _, _, _, _, _⟩ := x1
                obtain ⟨_, _, _, _, _, _, _⟩ := x2
                go_wp2_with fail
                refine (Kop2.out _).mono ?_
                rintro e w' ⟨rfl, rfl⟩
                go_wp2_with fail
                refine (Ko2.out _).mono ?_
                rintro e w' ⟨rfl, rfl⟩
                go_wp2_with fail
                refine (Kop1.out _).mono ?_
                rintro e w' ⟨rfl, rfl⟩
                go_wp2_with fail
                refine (Ko1.out _).mono ?_
                rintro e w' ⟨rfl, rfl⟩
                go_wp2_with fail
                refine (Kop4.out _).mono ?_
                rintro e w' ⟨rfl, rfl⟩
                go_wp2_with fail
                refine (Ko4.out _).mono ?_
                rintro e w' ⟨rfl, rfl⟩
                go_wp2
                go_ret2
                exact ⟨rfl, HB2.out⟩
            · rw [decide_eq_false go4] at K0
              have Ko4 := Lib.hid K0
              clear K0
              obtain rfl : res = false := by rw [hV, meetsC_eq]; simp [gop2, go2, gop1, go1, gop4, go4]
              clear hV gop2 go2 gop1 go1 gop4 go4
              rcases hk with rfl | rfl
              all_goals
                go_enter Tryd.func17, Tryd.ntmps17
                go_wp2_with fail
                refine (HP.out _).mono ?_
                rintro e w1 ⟨rfl, hb⟩
                have HB := Lib.hid hb
                clear hb
                go_wp2_with fail
                refine (HQ.out _).mono ?_
                rintro e w2 ⟨rfl, hb⟩
                have HB2 := Lib.hid (HB.out.trans (below_to (below_tr (below2 w1 _ _) (below_to hb (by simp))) HB.out.size))
                have hbx := boxes2 w1 e1 v1 r1 e2 v2 ⟨#[]⟩
                have x1 := hbx.1.below hb
                have x2 := hbx.2.below hb
                clear hb hbx
                obtain ⟨_, _, _, _, _, _, _⟩ := x1
                obtain ⟨_, _, _, _, _, _, _⟩ := x2
                go_wp2_with fail
                refine (Kop2.out _).mono ?_
                rintro e w' ⟨rfl, rfl⟩
                go_wp2_with fail
                refine (Ko2.out _).mono ?_
                rintro e w' ⟨rfl, rfl⟩
                go_wp2_with fail
                refine (Kop1.out _).mono ?_
                rintro e w' ⟨rfl, rfl⟩
                go_wp2_with fail
                refine (Ko1.out _).mono ?_
                rintro e w' ⟨rfl, rfl⟩
                go_wp2_with fail
                refine (Kop4.out _).mono ?_
                rintro e w' ⟨rfl, rfl⟩
                go_wp2_with fail
                refine (Ko4.out _).mono ?_
                rintro e w' ⟨rfl, rfl⟩
                go_wp2
                go_ret2
                exact ⟨rfl, HB2.out⟩
          · rw [decide_eq_false gop4] at K0
            have Kop4 := Lib.hid K0
            clear K0
            obtain rfl : res = false := by rw [hV, meetsC_eq]; simp [gop2, go2, gop1, go1, gop4]
            clear hV gop2 go2 gop1 go1 gop4
            rcases hk with rfl | rfl
            all_goals
              go_enter Tryd.func17, Tryd.ntmps17
              go_wp2_with fail
              refine (HP.out _).mono ?_
              rintro e w1 ⟨rfl, hb⟩
              have HB := Lib.hid hb
              clear hb
              go_wp2_with fail
              refine (HQ.out _).mono ?_
              rintro e w2 ⟨rfl, hb⟩
              have HB2 := Lib.hid (HB.out.trans (below_to (below_tr (below2 w1 _ _) (below_to hb (by simp))) HB.out.size))
              have hbx := boxes2 w1 e1 v1 r1 e2 v2 ⟨#[]⟩
              have x1 := hbx.1.below hb
              have x2 := hbx.2.below hb
              clear hb hbx
              obtain ⟨_, _, _, _, _, _, _⟩ := x1
              obtain ⟨_, _, _, _, _, _, _⟩ := x2
              go_wp2_with fail
              refine (Kop2.out _).mono ?_
              rintro e w' ⟨rfl, rfl⟩
              go_wp2_with fail
              refine (Ko2.out _).mono ?_
              rintro e w' ⟨rfl, rfl⟩
              go_wp2_with fail
              refine (Kop1.out _).mono ?_
              rintro e w' ⟨rfl, rfl⟩
              go_wp2_with fail
              refine (Ko1.out _).mono ?_
              rintro e w' ⟨rfl, rfl⟩
              go_wp2_with fail
              refine (Kop4.out _).mono ?_
              rintro e w' ⟨rfl, rfl⟩
              go_wp2
              go_ret2
              exact ⟨rfl, HB2.out⟩
      · rw [decide_eq_false gop1] at K0
        have Kop1 := Lib.hid K0
        clear K0
        have K0 := has4 op m1 m2
        by_cases gop4 : op / 4 % 2 = 1
        · rw [decide_eq_true gop4] at K0
          have Kop4 := Lib.hid K0
          clear K0
          have K0 := has4 o m3 m4
          by_cases go4 : o / 4 % 2 = 1
          · rw [decide_eq_true go4] at K0
            have Ko4 := Lib.hid K0
            clear K0
            obtain rfl : res = true := by rw [hV, meetsC_eq]; simp [gop2, go2, gop1, gop4, go4]
            clear hV gop2 go2 gop1 gop4 go4
            rcases hk with rfl | rfl
            all_goals
              go_enter Tryd.func17, Tryd.ntmps17
              go_wp2_with fail
              refine (HP.out _).mono ?_
              rintro e w1 ⟨rfl, hb⟩
              have HB := Lib.hid hb
              clear hb
              go_wp2_with fail
              refine (HQ.out _).mono ?_
              rintro e w2 ⟨rfl, hb⟩
              have HB2 := Lib.hid (HB.out.trans (below_to (below_tr (below2 w1 _ _) (below_to hb (by simp))) HB.out.size))
              have hbx := boxes2 w1 e1 v1 r1 e2 v2 ⟨#[]⟩
              have x1 := hbx.1.below hb
              have x2 := hbx.2.below hb
              clear hb hbx
              obtain ⟨_, _, _, _, _, _, _⟩ := x1
              obtain ⟨_, _, _, _, _, _, _⟩ := x2
              go_wp2_with fail
              refine (Kop2.out _).mono ?_
              rintro e w' ⟨rfl, rfl⟩
              go_wp2_with fail
              refine (Ko2.out _).mono ?_
              rintro e w' ⟨rfl, rfl⟩
              go_wp2_with fail
              refine (Kop1.out _).mono ?_
              rintro e w' ⟨rfl, rfl⟩
              go_wp2_with fail
              refine (Kop4.out _).mono ?_
              rintro e w' ⟨rfl, rfl⟩
              go_wp2_with fail
              refine (Ko4.out _).mono ?_
              rintro e w' ⟨rfl, rfl⟩
              go_wp2
              go_ret2
              exact ⟨rfl, HB2.out⟩
          · rw [decide_eq_false go4] at K0
            have Ko4 := Lib.hid K0
            clear K0
            obtain rfl : res = false := by rw [hV, meetsC_eq]; simp [gop2, go2, gop1, gop4, go4]
            clear hV gop2 go2 gop1 gop4 go4
            rcases hk with rfl | rfl
            all_goals
              go_enter Tryd.func17, Tryd.ntmps17
              go_wp2_with fail
              refine (HP.out _).mono ?_
              rintro e w1 ⟨rfl, hb⟩
              have HB := Lib.hid hb
              clear hb
              go_wp2_with fail
              refine (HQ.out _).mono ?_
              rintro e w2 ⟨rfl, hb⟩
              have HB2 := Lib.hid (HB.out.trans (below_to (below_tr (below2 w1 _ _) (below_to hb (by simp))) HB.out.size))
              have hbx := boxes2 w1 e1 v1 r1 e2 v2 ⟨#[]⟩
              have x1 := hbx.1.below hb
              have x2 := hbx.2.below hb
              clear hb hbx
              obtain ⟨_, _, _, _, _, _, _⟩ := x1
              obtain ⟨_, _, _, _, _, _, _⟩ := x2
              go_wp2_with fail
              refine (Kop2.out _).mono ?_
              rintro e w' ⟨rfl, rfl⟩
              go_wp2_with fail
              refine (Ko2.out _).mono ?_
              rintro e w' ⟨rfl, rfl⟩
              go_wp2_with fail
              refine (Kop1.out _).mono ?_
              rintro e w' ⟨rfl, rfl⟩
              go_wp2_with fail
              refine (Kop4.out _).mono ?_
              rintro e w' ⟨rfl, rfl⟩
              go_wp2_with fail
              refine (Ko4.out _).mono ?_
              rintro e w' ⟨rfl, rfl⟩
              go_wp2
              go_ret2
              exact ⟨rfl, HB2.out⟩
        · rw [decide_eq_false gop4] at K0
          have Kop4 := Lib.hid K0
          clear K0
          obtain rfl : res = false := by rw [hV, meetsC_eq]; simp [gop2, go2, gop1, gop4]
          clear hV gop2 go2 gop1 gop4
          rcases hk with rfl | rfl
          all_goals
            go_enter Tryd.func17, Tryd.ntmps17
            go_wp2_with fail
            refine (HP.out _).mono ?_
            rintro e w1 ⟨rfl, hb⟩
            have HB := Lib.hid hb
            clear hb
            go_wp2_with fail
            refine (HQ.out _).mono ?_
            rintro e w2 ⟨rfl, hb⟩
            have HB2 := Lib.hid (HB.out.trans (below_to (below_tr (below2 w1 _ _) (below_to hb (by simp))) HB.out.size))
            have hbx := boxes2 w1 e1 v1 r1 e2 v2 ⟨#[]⟩
            have x1 := hbx.1.below hb
            have x2 := hbx.2.below hb
            clear hb hbx
            obtain ⟨_, _, _, _, _, _, _⟩ := x1
            obtain ⟨_, _, _, _, _, _, _⟩ := x2
            go_wp2_with fail
            refine (Kop2.out _).mono ?_
            rintro e w' ⟨rfl, rfl⟩
            go_wp2_with fail
            refine (Ko2.out _).mono ?_
            rintro e w' ⟨rfl, rfl⟩
            go_wp2_with fail
            refine (Kop1.out _).mono ?_
            rintro e w' ⟨rfl, rfl⟩
            go_wp2_with fail
            refine (Kop4.out _).mono ?_
            rintro e w' ⟨rfl, rfl⟩
            go_wp2
            go_ret2
            exact ⟨rfl, HB2.out⟩
  · rw [decide_eq_false gop2] at K0
    have Kop2 := Lib.hid K0
    clear K0
    have K0 := has1 op m1 m2
    by_cases gop1 : op % 2 = 1
    · rw [decide_eq_true gop1] at K0
      have Kop1 := Lib.hid K0
      clear K0
      have K0 := has1 o m3 m4
      by_cases go1 : o % 2 = 1
      · rw [decide_eq_true go1] at K0
        have Ko1 := Lib.hid K0
        clear K0
        obtain rfl : res = true := by rw [hV, meetsC_eq]; simp [gop2, gop1, go1]
        clear hV gop2 gop1 go1
        rcases hk with rfl | rfl
        all_goals
          go_enter Tryd.func17, Tryd.ntmps17
          go_wp2_with fail
          refine (HP.out _).mono ?_
          rintro e w1 ⟨rfl, hb⟩
          have HB := Lib.hid hb
          clear hb
          go_wp2_with fail
          refine (HQ.out _).mono ?_
          rintro e w2 ⟨rfl, hb⟩
          have HB2 := Lib.hid (HB.out.trans (below_to (below_tr (below2 w1 _ _) (below_to hb (by simp))) HB.out.size))
          have hbx := boxes2 w1 e1 v1 r1 e2 v2 ⟨#[]⟩
          have x1 := hbx.1.below hb
          have x2 := hbx.2.below hb
          clear hb hbx
          obtain ⟨_, _, _, _, _, _, _⟩ := x1
          obtain ⟨_, _, _, _, _, _, _⟩ := x2
          go_wp2_with fail
          refine (Kop2.out _).mono ?_
          rintro e w' ⟨rfl, rfl⟩
          go_wp2_with fail
          refine (Kop1.out _).mono ?_
          rintro e w' ⟨rfl, rfl⟩
          go_wp2_with fail
          refine (Ko1.out _).mono ?_
          rintro e w' ⟨rfl, rfl⟩
          go_wp2
          go_ret2
          exact ⟨rfl, HB2.out⟩
      · rw [decide_eq_false go1] at K0
        have Ko1 := Lib.hid K0
        clear K0
        have K0 := has4 op m1 m2
        by_cases gop4 : op / 4 % 2 = 1
        · rw [decide_eq_true gop4] at K0
          have Kop4 := Lib.hid K0
          clear K0
          have K0 := has4 o m3 m4
          by_cases go4 : o / 4 % 2 = 1
          · rw [decide_eq_true go4] at K0
            have Ko4 := Lib.hid K0
            clear K0
            obtain rfl : res = true := by rw [hV, meetsC_eq]; simp [gop2, gop1, go1, gop4, go4]
            clear hV gop2 gop1 go1 gop4 go4
            rcases hk with rfl | rfl
            all_goals
              go_enter Tryd.func17, Tryd.ntmps17
              go_wp2_with fail
              refine (HP.out _).mono ?_
              rintro e w1 ⟨rfl, hb⟩
              have HB := Lib.hid hb
              clear hb
              go_wp2_with fail
              refine (HQ.out _).mono ?_
              rintro e w2 ⟨rfl, hb⟩
              have HB2 := Lib.hid (HB.out.trans (below_to (below_tr (below2 w1 _ _) (below_to hb (by simp))) HB.out.size))
              have hbx := boxes2 w1 e1 v1 r1 e2 v2 ⟨#[]⟩
              have x1 := hbx.1.below hb
              have x2 := hbx.2.below hb
              clear hb hbx
              obtain ⟨_, _, _, _, _, _, _⟩ := x1
              obtain ⟨_, _, _, _, _, _, _⟩ := x2
              go_wp2_with fail
              refine (Kop2.out _).mono ?_
              rintro e w' ⟨rfl, rfl⟩
              go_wp2_with fail
              refine (Kop1.out _).mono ?_
              rintro e w' ⟨rfl, rfl⟩
              go_wp2_with fail
              refine (Ko1.out _).mono ?_
              rintro e w' ⟨rfl, rfl⟩
              go_wp2_with fail
              refine (Kop4.out _).mono ?_
              rintro e w' ⟨rfl, rfl⟩
              go_wp2_with fail
              refine (Ko4.out _).mono ?_
              rintro e w' ⟨rfl, rfl⟩
              go_wp2
              go_ret2
              exact ⟨rfl, HB2.out⟩
          · rw [decide_eq_false go4] at K0
            have Ko4 := Lib.hid K0
            clear K0
            obtain rfl : res = false := by rw [hV, meetsC_eq]; simp [gop2, gop1, go1, gop4, go4]
            clear hV gop2 gop1 go1 gop4 go4
            rcases hk with rfl | rfl
            all_goals
              go_enter Tryd.func17, Tryd.ntmps17
              go_wp2_with fail
              refine (HP.out _).mono ?_
              rintro e w1 ⟨rfl, hb⟩
              have HB := Lib.hid hb
              clear hb
              go_wp2_with fail
              refine (HQ.out _).mono ?_
              rintro e w2 ⟨rfl, hb⟩
              have HB2 := Lib.hid (HB.out.trans (below_to (below_tr (below2 w1 _ _) (below_to hb (by simp))) HB.out.size))
              have hbx := boxes2 w1 e1 v1 r1 e2 v2 ⟨#[]⟩
              have x1 := hbx.1.below hb
              have x2 := hbx.2.below hb
              clear hb hbx
              obtain ⟨_, _, _, _, _, _, _⟩ := x1
              obtain ⟨_, _, _, _, _, _, _⟩ := x2
              go_wp2_with fail
              refine (Kop2.out _).mono ?_
              rintro e w' ⟨rfl, rfl⟩
              go_wp2_with fail
              refine (Kop1.out _).mono ?_
              rintro e w' ⟨rfl, rfl⟩
              go_wp2_with fail
              refine (Ko1.out _).mono ?_
              rintro e w' ⟨rfl, rfl⟩
              go_wp2_with fail
              refine (Kop4.out _).mono ?_
              rintro e w' ⟨rfl, rfl⟩
              go_wp2_with fail
              refine (Ko4.out _).mono ?_
              rintro e w' ⟨rfl, rfl⟩
              go_wp2
              go_ret2
              exact ⟨rfl, HB2.out⟩
        · rw [decide_eq_false gop4] at K0
          have Kop4 := Lib.hid K0
          clear K0
          obtain rfl : res = false := by rw [hV, meetsC_eq]; simp [gop2, gop1, go1, gop4]
          clear hV gop2 gop1 go1 gop4
          rcases hk with rfl | rfl
          all_goals
            go_enter Tryd.func17, Tryd.ntmps17
            go_wp2_with fail
            refine (HP.out _).mono ?_
            rintro e w1 ⟨rfl, hb⟩
            have HB := Lib.hid hb
            clear hb
            go_wp2_with fail
            refine (HQ.out _).mono ?_
            rintro e w2 ⟨rfl, hb⟩
            have HB2 := Lib.hid (HB.out.trans (below_to (below_tr (below2 w1 _ _) (below_to hb (by simp))) HB.out.size))
            have hbx := boxes2 w1 e1 v1 r1 e2 v2 ⟨#[]⟩
            have x1 := hbx.1.below hb
            have x2 := hbx.2.below hb
            clear hb hbx
            obtain ⟨_, _, _, _, _, _, _⟩ := x1
            obtain ⟨_, _, _, _, _, _, _⟩ := x2
            go_wp2_with fail
            refine (Kop2.out _).mono ?_
            rintro e w' ⟨rfl, rfl⟩
            go_wp2_with fail
            refine (Kop1.out _).mono ?_
            rintro e w' ⟨rfl, rfl⟩
            go_wp2_with fail
            refine (Ko1.out _).mono ?_
            rintro e w' ⟨rfl, rfl⟩
            go_wp2_with fail
            refine (Kop4.out _).mono ?_
            rintro e w' ⟨rfl, rfl⟩
            go_wp2
            go_ret2
            exact ⟨rfl, HB2.out⟩
    · rw [decide_eq_false gop1] at K0
      have Kop1 := Lib.hid K0
      clear K0
      have K0 := has4 op m1 m2
      by_cases gop4 : op / 4 % 2 = 1
      · rw [decide_eq_true gop4] at K0
        have Kop4 := Lib.hid K0
        clear K0
        have K0 := has4 o m3 m4
        by_cases go4 : o / 4 % 2 = 1
        · rw [decide_eq_true go4] at K0
          have Ko4 := Lib.hid K0
          clear K0
          obtain rfl : res = true := by rw [hV, meetsC_eq]; simp [gop2, gop1, gop4, go4]
          clear hV gop2 gop1 gop4 go4
          rcases hk with rfl | rfl
          all_goals
            go_enter Tryd.func17, Tryd.ntmps17
            go_wp2_with fail
            refine (HP.out _).mono ?_
            rintro e w1 ⟨rfl, hb⟩
            have HB := Lib.hid hb
            clear hb
            go_wp2_with fail
            refine (HQ.out _).mono ?_
            rintro e w2 ⟨rfl, hb⟩
            have HB2 := Lib.hid (HB.out.trans (below_to (below_tr (below2 w1 _ _) (below_to hb (by simp))) HB.out.size))
            have hbx := boxes2 w1 e1 v1 r1 e2 v2 ⟨#[]⟩
            have x1 := hbx.1.below hb
            have x2 := hbx.2.below hb
            clear hb hbx
            obtain ⟨_, _, _, _, _, _, _⟩ := x1
            obtain ⟨_, _, _, _, _, _, _⟩ := x2
            go_wp2_with fail
            refine (Kop2.out _).mono ?_
            rintro e w' ⟨rfl, rfl⟩
            go_wp2_with fail
            refine (Kop1.out _).mono ?_
            rintro e w' ⟨rfl, rfl⟩
            go_wp2_with fail
            refine (Kop4.out _).mono ?_
            rintro e w' ⟨rfl, rfl⟩
            go_wp2_with fail
            refine (Ko4.out _).mono ?_
            rintro e w' ⟨rfl, rfl⟩
            go_wp2
            go_ret2
            exact ⟨rfl, HB2.out⟩
        · rw [decide_eq_false go4] at K0
          have Ko4 := Lib.hid K0
          clear K0
          obtain rfl : res = false := by rw [hV, meetsC_eq]; simp [gop2, gop1, gop4, go4]
          clear hV gop2 gop1 gop4 go4
          rcases hk with rfl | rfl
          all_goals
            go_enter Tryd.func17, Tryd.ntmps17
            go_wp2_with fail
            refine (HP.out _).mono ?_
            rintro e w1 ⟨rfl, hb⟩
            have HB := Lib.hid hb
            clear hb
            go_wp2_with fail
            refine (HQ.out _).mono ?_
            rintro e w2 ⟨rfl, hb⟩
            have HB2 := Lib.hid (HB.out.trans (below_to (below_tr (below2 w1 _ _) (below_to hb (by simp))) HB.out.size))
            have hbx := boxes2 w1 e1 v1 r1 e2 v2 ⟨#[]⟩
            have x1 := hbx.1.below hb
            have x2 := hbx.2.below hb
            clear hb hbx
            obtain ⟨_, _, _, _, _, _, _⟩ := x1
            obtain ⟨_, _, _, _, _, _, _⟩ := x2
            go_wp2_with fail
            refine (Kop2.out _).mono ?_
            rintro e w' ⟨rfl, rfl⟩
            go_wp2_with fail
            refine (Kop1.out _).mono ?_
            rintro e w' ⟨rfl, rfl⟩
            go_wp2_with fail
            refine (Kop4.out _).mono ?_
            rintro e w' ⟨rfl, rfl⟩
            go_wp2_with fail
            refine (Ko4.out _).mono ?_
            rintro e w' ⟨rfl, rfl⟩
            go_wp2
            go_ret2
            exact ⟨rfl, HB2.out⟩
      · rw [decide_eq_false gop4] at K0
        have Kop4 := Lib.hid K0
        clear K0
        obtain rfl : res = false := by rw [hV, meetsC_eq]; simp [gop2, gop1, gop4]
        clear hV gop2 gop1 gop4
        rcases hk with rfl | rfl
        all_goals
          go_enter Tryd.func17, Tryd.ntmps17
          go_wp2_with fail
          refine (HP.out _).mono ?_
          rintro e w1 ⟨rfl, hb⟩
          have HB := Lib.hid hb
          clear hb
          go_wp2_with fail
          refine (HQ.out _).mono ?_
          rintro e w2 ⟨rfl, hb⟩
          have HB2 := Lib.hid (HB.out.trans (below_to (below_tr (below2 w1 _ _) (below_to hb (by simp))) HB.out.size))
          have hbx := boxes2 w1 e1 v1 r1 e2 v2 ⟨#[]⟩
          have x1 := hbx.1.below hb
          have x2 := hbx.2.below hb
          clear hb hbx
          obtain ⟨_, _, _, _, _, _, _⟩ := x1
          obtain ⟨_, _, _, _, _, _, _⟩ := x2
          go_wp2_with fail
          refine (Kop2.out _).mono ?_
          rintro e w' ⟨rfl, rfl⟩
          go_wp2_with fail
          refine (Kop1.out _).mono ?_
          rintro e w' ⟨rfl, rfl⟩
          go_wp2_with fail
          refine (Kop4.out _).mono ?_
          rintro e w' ⟨rfl, rfl⟩
          go_wp2
          go_ret2
          exact ⟨rfl, HB2.out⟩

set_option maxHeartbeats 8000000 in
theorem rmeets_d0 (k : Int) (hk : k = 1 ∨ k = 2) (op o : Int) (ho : inOp op) (ho' : inOp o) (a b : ByteArray) (e1 v1 r1 e2 v2 r2 : ByteArray) (n1 : r1.toList.isEmpty = false) (n2 : r2.toList.isEmpty = false) (w : World)
    (hP : ∀ w, Calls Tryd.prog 33 #[.int .i64 k, .string a, .string b] w fun en w' => en = .returned (.tuple #[.agg #[.string e1, .string v1, .string r1], .agg #[.string e2, .string v2, .string r2], .int .i64 0]) ∧ Below w.heap.size w w')
    (hQ : ∀ w, Calls Tryd.prog 34 #[.int .i64 k, .agg #[.string e1, .string v1, .string r1], .agg #[.string e2, .string v2, .string r2]] w fun e w' => e = .returned (.tuple #[.int .i64 0, .int .i64 0]) ∧ Below w.heap.size w w')
    (res : Bool) (hV : res = meetsC op o 0) :
    Calls Tryd.prog 17 #[.int .i64 k, .int .i64 op, .string a, .int .i64 o, .string b] w fun en w' => en = .returned (.tuple #[.bool res, .int .i64 0]) ∧ Below w.heap.size w w' := by
  have HP := Lib.hid hP
  have HQ := Lib.hid hQ
  clear hP hQ
  obtain ⟨o1, o2⟩ := ho
  obtain ⟨o3, o4⟩ := ho'
  have z1 : (op == 0) = false := beq_eq_false_iff_ne.2 (by omega)
  have z2 : (o == 0) = false := beq_eq_false_iff_ne.2 (by omega)
  have m1 : 0 ≤ op := by omega
  have m2 := o2
  have m3 : 0 ≤ o := by omega
  have m4 := o4
  have K0 := has2 op m1 m2
  by_cases gop2 : op / 2 % 2 = 1
  · rw [decide_eq_true gop2] at K0
    have Kop2 := Lib.hid K0
    clear K0
    have K0 := has2 o m3 m4
    by_cases go2 : o / 2 % 2 = 1
    · rw [decide_eq_true go2] at K0
      have Ko2 := Lib.hid K0
      clear K0
      obtain rfl : res = true := by rw [hV, meetsC_eq]; simp [gop2, go2]
      clear hV gop2 go2
      rcases hk with rfl | rfl
      all_goals
        go_enter Tryd.func17, Tryd.ntmps17
        go_wp2_with fail
        refine (HP.out _).mono ?_
        rintro e w1 ⟨rfl, hb⟩
        have HB := Lib.hid hb
        clear hb
        go_wp2_with fail
        refine (HQ.out _).mono ?_
        rintro e w2 ⟨rfl, hb⟩
        have HB2 := Lib.hid (HB.out.trans (below_to (below_tr (below2 w1 _ _) (below_to hb (by simp))) HB.out.size))
        have hbx := boxes2 w1 e1 v1 r1 e2 v2 r2
        have x1 := hbx.1.below hb
        have x2 := hbx.2.below hb
        clear hb hbx
        obtain ⟨_, _, _, _, _, _, _⟩ := x1
        obtain ⟨_, _, _, _, _, _, _⟩ := x2
        go_wp2_with fail
        refine (Kop2.out _).mono ?_
        rintro e w' ⟨rfl, rfl⟩
        go_wp2_with fail
        refine (Ko2.out _).mono ?_
        rintro e w' ⟨rfl, rfl⟩
        go_wp2
        go_ret2
        exact ⟨rfl, HB2.out⟩
    · rw [decide_eq_false go2] at K0
      have Ko2 := Lib.hid K0
      clear K0
      have K0 := has1 op m1 m2
      by_cases gop1 : op % 2 = 1
      · rw [decide_eq_true gop1] at K0
        have Kop1 := Lib.hid K0
        clear K0
        have K0 := has1 o m3 m4
        by_cases go1 : o % 2 = 1
        · rw [decide_eq_true go1] at K0
          have Ko1 := Lib.hid K0
          clear K0
          obtain rfl : res = true := by rw [hV, meetsC_eq]; simp [gop2, go2, gop1, go1]
          clear hV gop2 go2 gop1 go1
          rcases hk with rfl | rfl
          all_goals
            go_enter Tryd.func17, Tryd.ntmps17
            go_wp2_with fail
            refine (HP.out _).mono ?_
            rintro e w1 ⟨rfl, hb⟩
            have HB := Lib.hid hb
            clear hb
            go_wp2_with fail
            refine (HQ.out _).mono ?_
            rintro e w2 ⟨rfl, hb⟩
            have HB2 := Lib.hid (HB.out.trans (below_to (below_tr (below2 w1 _ _) (below_to hb (by simp))) HB.out.size))
            have hbx := boxes2 w1 e1 v1 r1 e2 v2 r2
            have x1 := hbx.1.below hb
            have x2 := hbx.2.below hb
            clear hb hbx
            obtain ⟨_, _, _, _, _, _, _⟩ := x1
            obtain ⟨_, _, _, _, _, _, _⟩ := x2
            go_wp2_with fail
            refine (Kop2.out _).mono ?_
            rintro e w' ⟨rfl, rfl⟩
            go_wp2_with fail
            refine (Ko2.out _).mono ?_
            rintro e w' ⟨rfl, rfl⟩
            go_wp2_with fail
            refine (Kop1.out _).mono ?_
            rintro e w' ⟨rfl, rfl⟩
            go_wp2_with fail
            refine (Ko1.out _).mono ?_
            rintro e w' ⟨rfl, rfl⟩
            go_wp2
            go_ret2
            exact ⟨rfl, HB2.out⟩
        · rw [decide_eq_false go1] at K0
          have Ko1 := Lib.hid K0
          clear K0
          have K0 := has4 op m1 m2
          by_cases gop4 : op / 4 % 2 = 1
          · rw [decide_eq_true gop4] at K0
            have Kop4 := Lib.hid K0
            clear K0
            have K0 := has4 o m3 m4
            by_cases go4 : o / 4 % 2 = 1
            · rw [decide_eq_true go4] at K0
              have Ko4 := Lib.hid K0
              clear K0
              obtain rfl : res = true := by rw [hV, meetsC_eq]; simp [gop2, go2, gop1, go1, gop4, go4]
              clear hV gop2 go2 gop1 go1 gop4 go4
              rcases hk with rfl | rfl
              all_goals
                go_enter Tryd.func17, Tryd.ntmps17
                go_wp2_with fail
                refine (HP.out _).mono ?_
                rintro e w1 ⟨rfl, hb⟩
                have HB := Lib.hid hb
                clear hb
                go_wp2_with fail
                refine (HQ.out _).mono ?_
                rintro e w2 ⟨rfl, hb⟩
                have HB2 := Lib.hid (HB.out.trans (below_to (below_tr (below2 w1 _ _) (below_to hb (by simp))) HB.out.size))
                have hbx := boxes2 w1 e1 v1 r1 e2 v2 r2
                have x1 := hbx.1.below hb
                have x2 := hbx.2.below hb
                clear hb hbx
                obtain ⟨_, _, _, _, _, _, _⟩ := x1
                obtain ⟨_, _, _, _, _, _, _⟩ := x2
                go_wp2_with fail
                refine (Kop2.out _).mono ?_
                rintro e w' ⟨rfl, rfl⟩
                go_wp2_with fail
                refine (Ko2.out _).mono ?_
                rintro e w' ⟨rfl, rfl⟩
                go_wp2_with fail
                refine (Kop1.out _).mono ?_
                rintro e w' ⟨rfl, rfl⟩
                go_wp2_with fail
                refine (Ko1.out _).mono ?_
                rintro e w' ⟨rfl, rfl⟩
                go_wp2_with fail
                refine (Kop4.out _).mono ?_
                rintro e w' ⟨rfl, rfl⟩
                go_wp2_with fail
                refine (Ko4.out _).mono ?_
                rintro e w' ⟨rfl, rfl⟩
                go_wp2
                go_ret2
                exact ⟨rfl, HB2.out⟩
            · rw [decide_eq_false go4] at K0
              have Ko4 := Lib.hid K0
              clear K0
              obtain rfl : res = false := by rw [hV, meetsC_eq]; simp [gop2, go2, gop1, go1, gop4, go4]
              clear hV gop2 go2 gop1 go1 gop4 go4
              rcases hk with rfl | rfl
              all_goals
                go_enter Tryd.func17, Tryd.ntmps17
                go_wp2_with fail
                refine (HP.out _).mono ?_
                rintro e w1 ⟨rfl, hb⟩
                have HB := Lib.hid hb
                clear hb
                go_wp2_with fail
                refine (HQ.out _).mono ?_
                rintro e w2 ⟨rfl, hb⟩
                have HB2 := Lib.hid (HB.out.trans (below_to (below_tr (below2 w1 _ _) (below_to hb (by simp))) HB.out.size))
                have hbx := boxes2 w1 e1 v1 r1 e2 v2 r2
                have x1 := hbx.1.below hb
                have x2 := hbx.2.below hb
                clear hb hbx
                obtain ⟨_, _, _, _, _, _, _⟩ := x1
                obtain ⟨_, _, _, _, _, _, _⟩ := x2
                go_wp2_with fail
                refine (Kop2.out _).mono ?_
                rintro e w' ⟨rfl, rfl⟩
                go_wp2_with fail
                refine (Ko2.out _).mono ?_
                rintro e w' ⟨rfl, rfl⟩
                go_wp2_with fail
                refine (Kop1.out _).mono ?_
                rintro e w' ⟨rfl, rfl⟩
                go_wp2_with fail
                refine (Ko1.out _).mono ?_
                rintro e w' ⟨rfl, rfl⟩
                go_wp2_with fail
                refine (Kop4.out _).mono ?_
                rintro e w' ⟨rfl, rfl⟩
                go_wp2_with fail
                refine (Ko4.out _).mono ?_
                rintro e w' ⟨rfl, rfl⟩
                go_wp2
                go_ret2
                exact ⟨rfl, HB2.out⟩
          · rw [decide_eq_false gop4] at K0
            have Kop4 := Lib.hid K0
            clear K0
            obtain rfl : res = false := by rw [hV, meetsC_eq]; simp [gop2, go2, gop1, go1, gop4]
            clear hV gop2 go2 gop1 go1 gop4
            rcases hk with rfl | rfl
            all_goals
              go_enter Tryd.func17, Tryd.ntmps17
              go_wp2_with fail
              refine (HP.out _).mono ?_
              rintro e w1 ⟨rfl, hb⟩
              have HB := Lib.hid hb
              clear hb
              go_wp2_with fail
              refine (HQ.out _).mono ?_
              rintro e w2 ⟨rfl, hb⟩
              have HB2 := Lib.hid (HB.out.trans (below_to (below_tr (below2 w1 _ _) (below_to hb (by simp))) HB.out.size))
              have hbx := boxes2 w1 e1 v1 r1 e2 v2 r2
              have x1 := hbx.1.below hb
              have x2 := hbx.2.below hb
              clear hb hbx
              obtain ⟨_, _, _, _, _, _, _⟩ := x1
              obtain ⟨_, _, _, _, _, _, _⟩ := x2
              go_wp2_with fail
              refine (Kop2.out _).mono ?_
              rintro e w' ⟨rfl, rfl⟩
              go_wp2_with fail
              refine (Ko2.out _).mono ?_
              rintro e w' ⟨rfl, rfl⟩
              go_wp2_with fail
              refine (Kop1.out _).mono ?_
              rintro e w' ⟨rfl, rfl⟩
              go_wp2_with fail
              refine (Ko1.out _).mono ?_
              rintro e w' ⟨rfl, rfl⟩
              go_wp2_with fail
              refine (Kop4.out _).mono ?_
              rintro e w' ⟨rfl, rfl⟩
              go_wp2
              go_ret2
              exact ⟨rfl, HB2.out⟩
      · rw [decide_eq_false gop1] at K0
        have Kop1 := Lib.hid K0
        clear K0
        have K0 := has4 op m1 m2
        by_cases gop4 : op / 4 % 2 = 1
        · rw [decide_eq_true gop4] at K0
          have Kop4 := Lib.hid K0
          clear K0
          have K0 := has4 o m3 m4
          by_cases go4 : o / 4 % 2 = 1
          · rw [decide_eq_true go4] at K0
            have Ko4 := Lib.hid K0
            clear K0
            obtain rfl : res = true := by rw [hV, meetsC_eq]; simp [gop2, go2, gop1, gop4, go4]
            clear hV gop2 go2 gop1 gop4 go4
            rcases hk with rfl | rfl
            all_goals
              go_enter Tryd.func17, Tryd.ntmps17
              go_wp2_with fail
              refine (HP.out _).mono ?_
              rintro e w1 ⟨rfl, hb⟩
              have HB := Lib.hid hb
              clear hb
              go_wp2_with fail
              refine (HQ.out _).mono ?_
              rintro e w2 ⟨rfl, hb⟩
              have HB2 := Lib.hid (HB.out.trans (below_to (below_tr (below2 w1 _ _) (below_to hb (by simp))) HB.out.size))
              have hbx := boxes2 w1 e1 v1 r1 e2 v2 r2
              have x1 := hbx.1.below hb
              have x2 := hbx.2.below hb
              clear hb hbx
              obtain ⟨_, _, _, _, _, _, _⟩ := x1
              obtain ⟨_, _, _, _, _, _, _⟩ := x2
              go_wp2_with fail
              refine (Kop2.out _).mono ?_
              rintro e w' ⟨rfl, rfl⟩
              go_wp2_with fail
              refine (Ko2.out _).mono ?_
              rintro e w' ⟨rfl, rfl⟩
              go_wp2_with fail
              refine (Kop1.out _).mono ?_
              rintro e w' ⟨rfl, rfl⟩
              go_wp2_with fail
              refine (Kop4.out _).mono ?_
              rintro e w' ⟨rfl, rfl⟩
              go_wp2_with fail
              refine (Ko4.out _).mono ?_
              rintro e w' ⟨rfl, rfl⟩
              go_wp2
              go_ret2
              exact ⟨rfl, HB2.out⟩
          · rw [decide_eq_false go4] at K0
            have Ko4 := Lib.hid K0
            clear K0
            obtain rfl : res = false := by rw [hV, meetsC_eq]; simp [gop2, go2, gop1, gop4, go4]
            clear hV gop2 go2 gop1 gop4 go4
            rcases hk with rfl | rfl
            all_goals
              go_enter Tryd.func17, Tryd.ntmps17
              go_wp2_with fail
              refine (HP.out _).mono ?_
              rintro e w1 ⟨rfl, hb⟩
              have HB := Lib.hid hb
              clear hb
              go_wp2_with fail
              refine (HQ.out _).mono ?_
              rintro e w2 ⟨rfl, hb⟩
              have HB2 := Lib.hid (HB.out.trans (below_to (below_tr (below2 w1 _ _) (below_to hb (by simp))) HB.out.size))
              have hbx := boxes2 w1 e1 v1 r1 e2 v2 r2
              have x1 := hbx.1.below hb
              have x2 := hbx.2.below hb
              clear hb hbx
              obtain ⟨_, _, _, _, _, _, _⟩ := x1
              obtain ⟨_, _, _, _, _, _, _⟩ := x2
              go_wp2_with fail
              refine (Kop2.out _).mono ?_
              rintro e w' ⟨rfl, rfl⟩
              go_wp2_with fail
              refine (Ko2.out _).mono ?_
              rintro e w' ⟨rfl, rfl⟩
              go_wp2_with fail
              refine (Kop1.out _).mono ?_
              rintro e w' ⟨rfl, rfl⟩
              go_wp2_with fail
              refine (Kop4.out _).mono ?_
              rintro e w' ⟨rfl, rfl⟩
              go_wp2_with fail
              refine (Ko4.out _).mono ?_
              rintro e w' ⟨rfl, rfl⟩
              go_wp2
              go_ret2
              exact ⟨rfl, HB2.out⟩
        · rw [decide_eq_false gop4] at K0
          have Kop4 := Lib.hid K0
          clear K0
          obtain rfl : res = false := by rw [hV, meetsC_eq]; simp [gop2, go2, gop1, gop4]
          clear hV gop2 go2 gop1 gop4
          rcases hk with rfl | rfl
          all_goals
            go_enter Tryd.func17, Tryd.ntmps17
            go_wp2_with fail
            refine (HP.out _).mono ?_
            rintro e w1 ⟨rfl, hb⟩
            have HB := Lib.hid hb
            clear hb
            go_wp2_with fail
            refine (HQ.out _).mono ?_
            rintro e w2 ⟨rfl, hb⟩
            have HB2 := Lib.hid (HB.out.trans (below_to (below_tr (below2 w1 _ _) (below_to hb (by simp))) HB.out.size))
            have hbx := boxes2 w1 e1 v1 r1 e2 v2 r2
            have x1 := hbx.1.below hb
            have x2 := hbx.2.below hb
            clear hb hbx
            obtain ⟨_, _, _, _, _, _, _⟩ := x1
            obtain ⟨_, _, _, _, _, _, _⟩ := x2
            go_wp2_with fail
            refine (Kop2.out _).mono ?_
            rintro e w' ⟨rfl, rfl⟩
            go_wp2_with fail
            refine (Ko2.out _).mono ?_
            rintro e w' ⟨rfl, rfl⟩
            go_wp2_with fail
            refine (Kop1.out _).mono ?_
            rintro e w' ⟨rfl, rfl⟩
            go_wp2_with fail
            refine (Kop4.out _).mono ?_
            rintro e w' ⟨rfl, rfl⟩
            go_wp2
            go_ret2
            exact ⟨rfl, HB2.out⟩
  · rw [decide_eq_false gop2] at K0
    have Kop2 := Lib.hid K0
    clear K0
    have K0 := has1 op m1 m2
    by_cases gop1 : op % 2 = 1
    · rw [decide_eq_true gop1] at K0
      have Kop1 := Lib.hid K0
      clear K0
      have K0 := has1 o m3 m4
      by_cases go1 : o % 2 = 1
      · rw [decide_eq_true go1] at K0
        have Ko1 := Lib.hid K0
        clear K0
        obtain rfl : res = true := by rw [hV, meetsC_eq]; simp [gop2, gop1, go1]
        clear hV gop2 gop1 go1
        rcases hk with rfl | rfl
        all_goals
          go_enter Tryd.func17, Tryd.ntmps17
          go_wp2_with fail
          refine (HP.out _).mono ?_
          rintro e w1 ⟨rfl, hb⟩
          have HB := Lib.hid hb
          clear hb
          go_wp2_with fail
          refine (HQ.out _).mono ?_
          rintro e w2 ⟨rfl, hb⟩
          have HB2 := Lib.hid (HB.out.trans (below_to (below_tr (below2 w1 _ _) (below_to hb (by simp))) HB.out.size))
          have hbx := boxes2 w1 e1 v1 r1 e2 v2 r2
          have x1 := hbx.1.below hb
          have x2 := hbx.2.below hb
          clear hb hbx
          obtain ⟨_, _, _, _, _, _, _⟩ := x1
          obtain ⟨_, _, _, _, _, _, _⟩ := x2
          go_wp2_with fail
          refine (Kop2.out _).mono ?_
          rintro e w' ⟨rfl, rfl⟩
          go_wp2_with fail
          refine (Kop1.out _).mono ?_
          rintro e w' ⟨rfl, rfl⟩
          go_wp2_with fail
          refine (Ko1.out _).mono ?_
          rintro e w' ⟨rfl, rfl⟩
          go_wp2
          go_ret2
          exact ⟨rfl, HB2.out⟩
      · rw [decide_eq_false go1] at K0
        have Ko1 := Lib.hid K0
        clear K0
        have K0 := has4 op m1 m2
        by_cases gop4 : op / 4 % 2 = 1
        · rw [decide_eq_true gop4] at K0
          have Kop4 := Lib.hid K0
          clear K0
          have K0 := has4 o m3 m4
          by_cases go4 : o / 4 % 2 = 1
          · rw [decide_eq_true go4] at K0
            have Ko4 := Lib.hid K0
            clear K0
            obtain rfl : res = true := by rw [hV, meetsC_eq]; simp [gop2, gop1, go1, gop4, go4]
            clear hV gop2 gop1 go1 gop4 go4
            rcases hk with rfl | rfl
            all_goals
              go_enter Tryd.func17, Tryd.ntmps17
              go_wp2_with fail
              refine (HP.out _).mono ?_
              rintro e w1 ⟨rfl, hb⟩
              have HB := Lib.hid hb
              clear hb
              go_wp2_with fail
              refine (HQ.out _).mono ?_
              rintro e w2 ⟨rfl, hb⟩
              have HB2 := Lib.hid (HB.out.trans (below_to (below_tr (below2 w1 _ _) (below_to hb (by simp))) HB.out.size))
              have hbx := boxes2 w1 e1 v1 r1 e2 v2 r2
              have x1 := hbx.1.below hb
              have x2 := hbx.2.below hb
              clear hb hbx
              obtain ⟨_, _, _, _, _, _, _⟩ := x1
              obtain ⟨_, _, _, _, _, _, _⟩ := x2
              go_wp2_with fail
              refine (Kop2.out _).mono ?_
              rintro e w' ⟨rfl, rfl⟩
              go_wp2_with fail
              refine (Kop1.out _).mono ?_
              rintro e w' ⟨rfl, rfl⟩
              go_wp2_with fail
              refine (Ko1.out _).mono ?_
              rintro e w' ⟨rfl, rfl⟩
              go_wp2_with fail
              refine (Kop4.out _).mono ?_
              rintro e w' ⟨rfl, rfl⟩
              go_wp2_with fail
              refine (Ko4.out _).mono ?_
              rintro e w' ⟨rfl, rfl⟩
              go_wp2
              go_ret2
              exact ⟨rfl, HB2.out⟩
          · rw [decide_eq_false go4] at K0
            have Ko4 := Lib.hid K0
            clear K0
            obtain rfl : res = false := by rw [hV, meetsC_eq]; simp [gop2, gop1, go1, gop4, go4]
            clear hV gop2 gop1 go1 gop4 go4
            rcases hk with rfl | rfl
            all_goals
              go_enter Tryd.func17, Tryd.ntmps17
              go_wp2_with fail
              refine (HP.out _).mono ?_
              rintro e w1 ⟨rfl, hb⟩
              have HB := Lib.hid hb
              clear hb
              go_wp2_with fail
              refine (HQ.out _).mono ?_
              rintro e w2 ⟨rfl, hb⟩
              have HB2 := Lib.hid (HB.out.trans (below_to (below_tr (below2 w1 _ _) (below_to hb (by simp))) HB.out.size))
              have hbx := boxes2 w1 e1 v1 r1 e2 v2 r2
              have x1 := hbx.1.below hb
              have x2 := hbx.2.below hb
              clear hb hbx
              obtain ⟨_, _, _, _, _, _, _⟩ := x1
              obtain ⟨_, _, _, _, _, _, _⟩ := x2
              go_wp2_with fail
              refine (Kop2.out _).mono ?_
              rintro e w' ⟨rfl, rfl⟩
              go_wp2_with fail
              refine (Kop1.out _).mono ?_
              rintro e w' ⟨rfl, rfl⟩
              go_wp2_with fail
              refine (Ko1.out _).mono ?_
              rintro e w' ⟨rfl, rfl⟩
              go_wp2_with fail
              refine (Kop4.out _).mono ?_
              rintro e w' ⟨rfl, rfl⟩
              go_wp2_with fail
              refine (Ko4.out _).mono ?_
              rintro e w' ⟨rfl, rfl⟩
              go_wp2
              go_ret2
              exact ⟨rfl, HB2.out⟩
        · rw [decide_eq_false gop4] at K0
          have Kop4 := Lib.hid K0
          clear K0
          obtain rfl : res = false := by rw [hV, meetsC_eq]; simp [gop2, gop1, go1, gop4]
          clear hV gop2 gop1 go1 gop4
          rcases hk with rfl | rfl
          all_goals
            go_enter Tryd.func17, Tryd.ntmps17
            go_wp2_with fail
            refine (HP.out _).mono ?_
            rintro e w1 ⟨rfl, hb⟩
            have HB := Lib.hid hb
            clear hb
            go_wp2_with fail
            refine (HQ.out _).mono ?_
            rintro e w2 ⟨rfl, hb⟩
            have HB2 := Lib.hid (HB.out.trans (below_to (below_tr (below2 w1 _ _) (below_to hb (by simp))) HB.out.size))
            have hbx := boxes2 w1 e1 v1 r1 e2 v2 r2
            have x1 := hbx.1.below hb
            have x2 := hbx.2.below hb
            clear hb hbx
            obtain ⟨_, _, _, _, _, _, _⟩ := x1
            obtain ⟨_, _, _, _, _, _, _⟩ := x2
            go_wp2_with fail
            refine (Kop2.out _).mono ?_
            rintro e w' ⟨rfl, rfl⟩
            go_wp2_with fail
            refine (Kop1.out _).mono ?_
            rintro e w' ⟨rfl, rfl⟩
            go_wp2_with fail
            refine (Ko1.out _).mono ?_
            rintro e w' ⟨rfl, rfl⟩
            go_wp2_with fail
            refine (Kop4.out _).mono ?_
            rintro e w' ⟨rfl, rfl⟩
            go_wp2
            go_ret2
            exact ⟨rfl, HB2.out⟩
    · rw [decide_eq_false gop1] at K0
      have Kop1 := Lib.hid K0
      clear K0
      have K0 := has4 op m1 m2
      by_cases gop4 : op / 4 % 2 = 1
      · rw [decide_eq_true gop4] at K0
        have Kop4 := Lib.hid K0
        clear K0
        have K0 := has4 o m3 m4
        by_cases go4 : o / 4 % 2 = 1
        · rw [decide_eq_true go4] at K0
          have Ko4 := Lib.hid K0
          clear K0
          obtain rfl : res = true := by rw [hV, meetsC_eq]; simp [gop2, gop1, gop4, go4]
          clear hV gop2 gop1 gop4 go4
          rcases hk with rfl | rfl
          all_goals
            go_enter Tryd.func17, Tryd.ntmps17
            go_wp2_with fail
            refine (HP.out _).mono ?_
            rintro e w1 ⟨rfl, hb⟩
            have HB := Lib.hid hb
            clear hb
            go_wp2_with fail
            refine (HQ.out _).mono ?_
            rintro e w2 ⟨rfl, hb⟩
            have HB2 := Lib.hid (HB.out.trans (below_to (below_tr (below2 w1 _ _) (below_to hb (by simp))) HB.out.size))
            have hbx := boxes2 w1 e1 v1 r1 e2 v2 r2
            have x1 := hbx.1.below hb
            have x2 := hbx.2.below hb
            clear hb hbx
            obtain ⟨_, _, _, _, _, _, _⟩ := x1
            obtain ⟨_, _, _, _, _, _, _⟩ := x2
            go_wp2_with fail
            refine (Kop2.out _).mono ?_
            rintro e w' ⟨rfl, rfl⟩
            go_wp2_with fail
            refine (Kop1.out _).mono ?_
            rintro e w' ⟨rfl, rfl⟩
            go_wp2_with fail
            refine (Kop4.out _).mono ?_
            rintro e w' ⟨rfl, rfl⟩
            go_wp2_with fail
            refine (Ko4.out _).mono ?_
            rintro e w' ⟨rfl, rfl⟩
            go_wp2
            go_ret2
            exact ⟨rfl, HB2.out⟩
        · rw [decide_eq_false go4] at K0
          have Ko4 := Lib.hid K0
          clear K0
          obtain rfl : res = false := by rw [hV, meetsC_eq]; simp [gop2, gop1, gop4, go4]
          clear hV gop2 gop1 gop4 go4
          rcases hk with rfl | rfl
          all_goals
            go_enter Tryd.func17, Tryd.ntmps17
            go_wp2_with fail
            refine (HP.out _).mono ?_
            rintro e w1 ⟨rfl, hb⟩
            have HB := Lib.hid hb
            clear hb
            go_wp2_with fail
            refine (HQ.out _).mono ?_
            rintro e w2 ⟨rfl, hb⟩
            have HB2 := Lib.hid (HB.out.trans (below_to (below_tr (below2 w1 _ _) (below_to hb (by simp))) HB.out.size))
            have hbx := boxes2 w1 e1 v1 r1 e2 v2 r2
            have x1 := hbx.1.below hb
            have x2 := hbx.2.below hb
            clear hb hbx
            obtain ⟨_, _, _, _, _, _, _⟩ := x1
            obtain ⟨_, _, _, _, _, _, _⟩ := x2
            go_wp2_with fail
            refine (Kop2.out _).mono ?_
            rintro e w' ⟨rfl, rfl⟩
            go_wp2_with fail
            refine (Kop1.out _).mono ?_
            rintro e w' ⟨rfl, rfl⟩
            go_wp2_with fail
            refine (Kop4.out _).mono ?_
            rintro e w' ⟨rfl, rfl⟩
            go_wp2_with fail
            refine (Ko4.out _).mono ?_
            rintro e w' ⟨rfl, rfl⟩
            go_wp2
            go_ret2
            exact ⟨rfl, HB2.out⟩
      · rw [decide_eq_false gop4] at K0
        have Kop4 := Lib.hid K0
        clear K0
        obtain rfl : res = false := by rw [hV, meetsC_eq]; simp [gop2, gop1, gop4]
        clear hV gop2 gop1 gop4
        rcases hk with rfl | rfl
        all_goals
          go_enter Tryd.func17, Tryd.ntmps17
          go_wp2_with fail
          refine (HP.out _).mono ?_
          rintro e w1 ⟨rfl, hb⟩
          have HB := Lib.hid hb
          clear hb
          go_wp2_with fail
          refine (HQ.out _).mono ?_
          rintro e w2 ⟨rfl, hb⟩
          have HB2 := Lib.hid (HB.out.trans (below_to (below_tr (below2 w1 _ _) (below_to hb (by simp))) HB.out.size))
          have hbx := boxes2 w1 e1 v1 r1 e2 v2 r2
          have x1 := hbx.1.below hb
          have x2 := hbx.2.below hb
          clear hb hbx
          obtain ⟨_, _, _, _, _, _, _⟩ := x1
          obtain ⟨_, _, _, _, _, _, _⟩ := x2
          go_wp2_with fail
          refine (Kop2.out _).mono ?_
          rintro e w' ⟨rfl, rfl⟩
          go_wp2_with fail
          refine (Kop1.out _).mono ?_
          rintro e w' ⟨rfl, rfl⟩
          go_wp2_with fail
          refine (Kop4.out _).mono ?_
          rintro e w' ⟨rfl, rfl⟩
          go_wp2
          go_ret2
          exact ⟨rfl, HB2.out⟩
end Go.Proofs.YtgggbjkgpjcklaaDoor
