/-
  Meets, as the document has it, the versions being read, unlike ones. Helper text (printed by mk_refI.py); the conditions are those typed.
-/
import Derived.Test.YtgggbjkgpjcklaaDoorRefH
namespace Go.Proofs.YtgggbjkgpjcklaaDoor
set_option linter.unusedVariables false
set_option linter.unusedSimpArgs false
open Go.RowKit

theorem meetsC_lt {op o c : Int} (h : c < 0) : meetsC op o c = (decide (op / 4 % 2 = 1) || decide (o % 2 = 1)) := if_pos h
theorem meetsC_gt {op o c : Int} (h : 0 < c) : meetsC op o c = (decide (op % 2 = 1) || decide (o / 4 % 2 = 1)) := (if_neg (by omega)).trans (if_pos h)
theorem meetsC_eq {op o : Int} : meetsC op o 0 = ((decide (op / 2 % 2 = 1) && decide (o / 2 % 2 = 1)) || (decide (op % 2 = 1) && decide (o % 2 = 1)) || (decide (op / 4 % 2 = 1) && decide (o / 4 % 2 = 1))) := rfl

set_option maxHeartbeats 8000000 in
theorem rmeets_clt (k : Int) (hk : k = 1 ∨ k = 2) (op o : Int) (ho : inOp op) (ho' : inOp o) (a b : ByteArray) (e1 v1 r1 e2 v2 r2 : ByteArray) (c d : Int) (hs : c < 0) (w : World)
    (hP : ∀ w, Calls Tryd.prog 33 #[.int .i64 k, .string a, .string b] w fun en w' => en = .returned (.tuple #[.agg #[.string e1, .string v1, .string r1], .agg #[.string e2, .string v2, .string r2], .int .i64 0]) ∧ Below w.heap.size w w')
    (hQ : ∀ w, Calls Tryd.prog 34 #[.int .i64 k, .agg #[.string e1, .string v1, .string r1], .agg #[.string e2, .string v2, .string r2]] w fun e w' => e = .returned (.tuple #[.int .i64 c, .int .i64 d]) ∧ Below w.heap.size w w')
    (res : Bool) (hV : res = meetsC op o c) :
    Calls Tryd.prog 17 #[.int .i64 k, .int .i64 op, .string a, .int .i64 o, .string b] w fun en w' => en = .returned (.tuple #[.bool res, .int .i64 0]) ∧ Below w.heap.size w w' := by
  have HP := Lib.hid hP
  have HQ := Lib.hid hQ
  clear hP hQ
  obtain ⟨o1, o2⟩ := ho
  obtain ⟨o3, o4⟩ := ho'
  have z1 : (op == 0) = false := beq_eq_false_iff_ne.2 (by omega)
  have z2 : (o == 0) = false := beq_eq_false_iff_ne.2 (by omega)
  have m1 : 0 ≤ op := by omega
  have m2 := o2
  have m3 : 0 ≤ o := by omega
  have m4 := o4
  have C0 : (c == 0) = false := beq_eq_false_iff_ne.2 (by omega)
  have K0 := has4 op m1 m2
  by_cases gop4 : op / 4 % 2 = 1
  · rw [decide_eq_true gop4] at K0
    have Kop4 := Lib.hid K0
    clear K0
    obtain rfl : res = true := by rw [hV, meetsC_lt hs]; simp [gop4]
    clear hV gop4
    rcases hk with rfl | rfl
    all_goals
      go_enter Tryd.func17, Tryd.ntmps17
      go_wp2_with fail
      refine (HP.out _).mono ?_
      rintro e w1 ⟨rfl, hb⟩
      have HB := Lib.hid hb
      clear hb
      go_wp2_with fail
      refine (HQ.out _).mono ?_
      rintro e w2 ⟨rfl, hb⟩
      have HB2 := Lib.hid (HB.out.trans (below_to (below_tr (below2 w1 _ _) (below_to hb (by simp))) HB.out.size))
      have hbx := boxes2 w1 e1 v1 r1 e2 v2 r2
      have x1 := hbx.1.below hb
      have x2 := hbx.2.below hb
      clear hb hbx
      obtain ⟨_, _, _, _, _, _, _⟩ := x1
      obtain ⟨_, _, _, _, _, _, _⟩ := x2
      go_wp2_with fail
      refine (Kop4.out _).mono ?_
      rintro e w' ⟨rfl, rfl⟩
      go_wp2
      go_ret2
      exact ⟨rfl, HB2.out⟩
  · rw [decide_eq_false gop4] at K0
    have Kop4 := Lib.hid K0
    clear K0
    have K0 := has1 o m3 m4
    by_cases go1 : o % 2 = 1
    · rw [decide_eq_true go1] at K0
      have Ko1 := Lib.hid K0
      clear K0
      obtain rfl : res = true := by rw [hV, meetsC_lt hs]; simp [gop4, go1]
      clear hV gop4 go1
      rcases hk with rfl | rfl
      all_goals
        go_enter Tryd.func17, Tryd.ntmps17
        go_wp2_with fail
        refine (HP.out _).mono ?_
        rintro e w1 ⟨rfl, hb⟩
        have HB := Lib.hid hb
        clear hb
        go_wp2_with fail
        refine (HQ.out _).mono ?_
        rintro e w2 ⟨rfl, hb⟩
        have HB2 := Lib.hid (HB.out.trans (below_to (below_tr (below2 w1 _ _) (below_to hb (by simp))) HB.out.size))
        have hbx := boxes2 w1 e1 v1 r1 e2 v2 r2
        have x1 := hbx.1.below hb
        have x2 := hbx.2.below hb
        clear hb hbx
        obtain ⟨_, _, _, _, _, _, _⟩ := x1
        obtain ⟨_, _, _, _, _, _, _⟩ := x2
        go_wp2_with fail
        refine (Kop4.out _).mono ?_
        rintro e w' ⟨rfl, rfl⟩
        go_wp2_with fail
        refine (Ko1.out _).mono ?_
        rintro e w' ⟨rfl, rfl⟩
        go_wp2
        go_ret2
        exact ⟨rfl, HB2.out⟩
    · rw [decide_eq_false go1] at K0
      have Ko1 := Lib.hid K0
      clear K0
      obtain rfl : res = false := by rw [hV, meetsC_lt hs]; simp [gop4, go1]
      clear hV gop4 go1
      rcases hk with rfl | rfl
      all_goals
        go_enter Tryd.func17, Tryd.ntmps17
        go_wp2_with fail
        refine (HP.out _).mono ?_
        rintro e w1 ⟨rfl, hb⟩
        have HB := Lib.hid hb
        clear hb
        go_wp2_with fail
        refine (HQ.out _).mono ?_
        rintro e w2 ⟨rfl, hb⟩
        have HB2 := Lib.hid (HB.out.trans (below_to (below_tr (below2 w1 _ _) (below_to hb (by simp))) HB.out.size))
        have hbx := boxes2 w1 e1 v1 r1 e2 v2 r2
        have x1 := hbx.1.below hb
        have x2 := hbx.2.below hb
        clear hb hbx
        obtain ⟨_, _, _, _, _, _, _⟩ := x1
        obtain ⟨_, _, _, _, _, _, _⟩ := x2
        go_wp2_with fail
        refine (Kop4.out _).mono ?_
        rintro e w' ⟨rfl, rfl⟩
        go_wp2_with fail
        refine (Ko1.out _).mono ?_
        rintro e w' ⟨rfl, rfl⟩
        go_wp2
        go_ret2
        exact ⟨rfl, HB2.out⟩

set_option maxHeartbeats 8000000 in
theorem rmeets_cgt (k : Int) (hk : k = 1 ∨ k = 2) (op o : Int) (ho : inOp op) (ho' : inOp o) (a b : ByteArray) (e1 v1 r1 e2 v2 r2 : ByteArray) (c d : Int) (hs : 0 < c) (w : World)
    (hP : ∀ w, Calls Tryd.prog 33 #[.int .i64 k, .string a, .string b] w fun en w' => en = .returned (.tuple #[.agg #[.string e1, .string v1, .string r1], .agg #[.string e2, .string v2, .string r2], .int .i64 0]) ∧ Below w.heap.size w w')
    (hQ : ∀ w, Calls Tryd.prog 34 #[.int .i64 k, .agg #[.string e1, .string v1, .string r1], .agg #[.string e2, .string v2, .string r2]] w fun e w' => e = .returned (.tuple #[.int .i64 c, .int .i64 d]) ∧ Below w.heap.size w w')
    (res : Bool) (hV : res = meetsC op o c) :
    Calls Tryd.prog 17 #[.int .i64 k, .int .i64 op, .string a, .int .i64 o, .string b] w fun en w' => en = .returned (.tuple #[.bool res, .int .i64 0]) ∧ Below w.heap.size w w' := by
  have HP := Lib.hid hP
  have HQ := Lib.hid hQ
  clear hP hQ
  obtain ⟨o1, o2⟩ := ho
  obtain ⟨o3, o4⟩ := ho'
  have z1 : (op == 0) = false := beq_eq_false_iff_ne.2 (by omega)
  have z2 : (o == 0) = false := beq_eq_false_iff_ne.2 (by omega)
  have m1 : 0 ≤ op := by omega
  have m2 := o2
  have m3 : 0 ≤ o := by omega
  have m4 := o4
  have C0 : (c == 0) = false := beq_eq_false_iff_ne.2 (by omega)
  have C1 : ¬ c < 0 := by omega
  have K0 := has1 op m1 m2
  by_cases gop1 : op % 2 = 1
  · rw [decide_eq_true gop1] at K0
    have Kop1 := Lib.hid K0
    clear K0
    obtain rfl : res = true := by rw [hV, meetsC_gt hs]; simp [gop1]
    clear hV gop1
    rcases hk with rfl | rfl
    all_goals
      go_enter Tryd.func17, Tryd.ntmps17
      go_wp2_with fail
      refine (HP.out _).mono ?_
      rintro e w1 ⟨rfl, hb⟩
      have HB := Lib.hid hb
      clear hb
      go_wp2_with fail
      refine (HQ.out _).mono ?_
      rintro e w2 ⟨rfl, hb⟩
      have HB2 := Lib.hid (HB.out.trans (below_to (below_tr (below2 w1 _ _) (below_to hb (by simp))) HB.out.size))
      have hbx := boxes2 w1 e1 v1 r1 e2 v2 r2
      have x1 := hbx.1.below hb
      have x2 := hbx.2.below hb
      clear hb hbx
      obtain ⟨_, _, _, _, _, _, _⟩ := x1
      obtain ⟨_, _, _, _, _, _, _⟩ := x2
      go_wp2_with fail
      refine (Kop1.out _).mono ?_
      rintro e w' ⟨rfl, rfl⟩
      go_wp2
      go_ret2
      exact ⟨rfl, HB2.out⟩
  · rw [decide_eq_false gop1] at K0
    have Kop1 := Lib.hid K0
    clear K0
    have K0 := has4 o m3 m4
    by_cases go4 : o / 4 % 2 = 1
    · rw [decide_eq_true go4] at K0
      have Ko4 := Lib.hid K0
      clear K0
      obtain rfl : res = true := by rw [hV, meetsC_gt hs]; simp [gop1, go4]
      clear hV gop1 go4
      rcases hk with rfl | rfl
      all_goals
        go_enter Tryd.func17, Tryd.ntmps17
        go_wp2_with fail
        refine (HP.out _).mono ?_
        rintro e w1 ⟨rfl, hb⟩
        have HB := Lib.hid hb
        clear hb
        go_wp2_with fail
        refine (HQ.out _).mono ?_
        rintro e w2 ⟨rfl, hb⟩
        have HB2 := Lib.hid (HB.out.trans (below_to (below_tr (below2 w1 _ _) (below_to hb (by simp))) HB.out.size))
        have hbx := boxes2 w1 e1 v1 r1 e2 v2 r2
        have x1 := hbx.1.below hb
        have x2 := hbx.2.below hb
        clear hb hbx
        obtain ⟨_, _, _, _, _, _, _⟩ := x1
        obtain ⟨_, _, _, _, _, _, _⟩ := x2
        go_wp2_with fail
        refine (Kop1.out _).mono ?_
        rintro e w' ⟨rfl, rfl⟩
        go_wp2_with fail
        refine (Ko4.out _).mono ?_
        rintro e w' ⟨rfl, rfl⟩
        go_wp2
        go_ret2
        exact ⟨rfl, HB2.out⟩
    · rw [decide_eq_false go4] at K0
      have Ko4 := Lib.hid K0
      clear K0
      obtain rfl : res = false := by rw [hV, meetsC_gt hs]; simp [gop1, go4]
      clear hV gop1 go4
      rcases hk with rfl | rfl
      all_goals
        go_enter Tryd.func17, Tryd.ntmps17
        go_wp2_with fail
        refine (HP.out _).mono ?_
        rintro e w1 ⟨rfl, hb⟩
        have HB := Lib.hid hb
        clear hb
        go_wp2_with fail
        refine (HQ.out _).mono ?_
        rintro e w2 ⟨rfl, hb⟩
        have HB2 := Lib.hid (HB.out.trans (below_to (below_tr (below2 w1 _ _) (below_to hb (by simp))) HB.out.size))
        have hbx := boxes2 w1 e1 v1 r1 e2 v2 r2
        have x1 := hbx.1.below hb
        have x2 := hbx.2.below hb
        clear hb hbx
        obtain ⟨_, _, _, _, _, _, _⟩ := x1
        obtain ⟨_, _, _, _, _, _, _⟩ := x2
        go_wp2_with fail
        refine (Kop1.out _).mono ?_
        rintro e w' ⟨rfl, rfl⟩
        go_wp2_with fail
        refine (Ko4.out _).mono ?_
        rintro e w' ⟨rfl, rfl⟩
        go_wp2
        go_ret2
        exact ⟨rfl, HB2.out⟩

set_option maxHeartbeats 8000000 in
theorem rmeets_dlt (k : Int) (hk : k = 1 ∨ k = 2) (op o : Int) (ho : inOp op) (ho' : inOp o) (a b : ByteArray) (e1 v1 r1 e2 v2 r2 : ByteArray) (d : Int) (n1 : r1.toList.isEmpty = false) (n2 : r2.toList.isEmpty = false) (hs : d < 0) (w : World)
    (hP : ∀ w, Calls Tryd.prog 33 #[.int .i64 k, .string a, .string b] w fun en w' => en = .returned (.tuple #[.agg #[.string e1, .string v1, .string r1], .agg #[.string e2, .string v2, .string r2], .int .i64 0]) ∧ Below w.heap.size w w')
    (hQ : ∀ w, Calls Tryd.prog 34 #[.int .i64 k, .agg #[.string e1, .string v1, .string r1], .agg #[.string e2, .string v2, .string r2]] w fun e w' => e = .returned (.tuple #[.int .i64 0, .int .i64 d]) ∧ Below w.heap.size w w')
    (res : Bool) (hV : res = meetsC op o d) :
    Calls Tryd.prog 17 #[.int .i64 k, .int .i64 op, .string a, .int .i64 o, .string b] w fun en w' => en = .returned (.tuple #[.bool res, .int .i64 0]) ∧ Below w.heap.size w w' := by
  have HP := Lib.hid hP
  have HQ := Lib.hid hQ
  clear hP hQ
  obtain ⟨o1, o2⟩ := ho
  obtain ⟨o3, o4⟩ := ho'
  have z1 : (op == 0) = false := beq_eq_false_iff_ne.2 (by omega)
  have z2 : (o == 0) = false := beq_eq_false_iff_ne.2 (by omega)
  have m1 : 0 ≤ op := by omega
  have m2 := o2
  have m3 : 0 ≤ o := by omega
  have m4 := o4
  have K0 := has4 op m1 m2
  by_cases gop4 : op / 4 % 2 = 1
  · rw [decide_eq_true gop4] at K0
    have Kop4 := Lib.hid K0
    clear K0
    obtain rfl : res = true := by rw [hV, meetsC_lt hs]; simp [gop4]
    clear hV gop4
    rcases hk with rfl | rfl
    all_goals
      go_enter Tryd.func17, Tryd.ntmps17
      go_wp2_with fail
      refine (HP.out _).mono ?_
      rintro e w1 ⟨rfl, hb⟩
      have HB := Lib.hid hb
      clear hb
      go_wp2_with fail
      refine (HQ.out _).mono ?_
      rintro e w2 ⟨rfl, hb⟩
      have HB2 := Lib.hid (HB.out.trans (below_to (below_tr (below2 w1 _ _) (below_to hb (by simp))) HB.out.size))
      have hbx := boxes2 w1 e1 v1 r1 e2 v2 r2
      have x1 := hbx.1.below hb
      have x2 := hbx.2.below hb
      clear hb hbx
      obtain ⟨_, _, _, _, _, _, _⟩ := x1
      obtain ⟨_, _, _, _, _, _, _⟩ := x2
      go_wp2_with fail
      refine (Kop4.out _).mono ?_
      rintro e w' ⟨rfl, rfl⟩
      go_wp2
      go_ret2
      exact ⟨rfl, HB2.out⟩
  · rw [decide_eq_false gop4] at K0
    have Kop4 := Lib.hid K0
    clear K0
    have K0 := has1 o m3 m4
    by_cases go1 : o % 2 = 1
    · rw [decide_eq_true go1] at K0
      have Ko1 := Lib.hid K0
      clear K0
      obtain rfl : res = true := by rw [hV, meetsC_lt hs]; simp [gop4, go1]
      clear hV gop4 go1
      rcases hk with rfl | rfl
      all_goals
        go_enter Tryd.func17, Tryd.ntmps17
        go_wp2_with fail
        refine (HP.out _).mono ?_
        rintro e w1 ⟨rfl, hb⟩
        have HB := Lib.hid hb
        clear hb
        go_wp2_with fail
        refine (HQ.out _).mono ?_
        rintro e w2 ⟨rfl, hb⟩
        have HB2 := Lib.hid (HB.out.trans (below_to (below_tr (below2 w1 _ _) (below_to hb (by simp))) HB.out.size))
        have hbx := boxes2 w1 e1 v1 r1 e2 v2 r2
        have x1 := hbx.1.below hb
        have x2 := hbx.2.below hb
        clear hb hbx
        obtain ⟨_, _, _, _, _, _, _⟩ := x1
        obtain ⟨_, _, _, _, _, _, _⟩ := x2
        go_wp2_with fail
        refine (Kop4.out _).mono ?_
        rintro e w' ⟨rfl, rfl⟩
        go_wp2_with fail
        refine (Ko1.out _).mono ?_
        rintro e w' ⟨rfl, rfl⟩
        go_wp2
        go_ret2
        exact ⟨rfl, HB2.out⟩
    · rw [decide_eq_false go1] at K0
      have Ko1 := Lib.hid K0
      clear K0
      obtain rfl : res = false := by rw [hV, meetsC_lt hs]; simp [gop4, go1]
      clear hV gop4 go1
      rcases hk with rfl | rfl
      all_goals
        go_enter Tryd.func17, Tryd.ntmps17
        go_wp2_with fail
        refine (HP.out _).mono ?_
        rintro e w1 ⟨rfl, hb⟩
        have HB := Lib.hid hb
        clear hb
        go_wp2_with fail
        refine (HQ.out _).mono ?_
        rintro e w2 ⟨rfl, hb⟩
        have HB2 := Lib.hid (HB.out.trans (below_to (below_tr (below2 w1 _ _) (below_to hb (by simp))) HB.out.size))
        have hbx := boxes2 w1 e1 v1 r1 e2 v2 r2
        have x1 := hbx.1.below hb
        have x2 := hbx.2.below hb
        clear hb hbx
        obtain ⟨_, _, _, _, _, _, _⟩ := x1
        obtain ⟨_, _, _, _, _, _, _⟩ := x2
        go_wp2_with fail
        refine (Kop4.out _).mono ?_
        rintro e w' ⟨rfl, rfl⟩
        go_wp2_with fail
        refine (Ko1.out _).mono ?_
        rintro e w' ⟨rfl, rfl⟩
        go_wp2
        go_ret2
        exact ⟨rfl, HB2.out⟩

set_option maxHeartbeats 8000000 in
theorem rmeets_dgt (k : Int) (hk : k = 1 ∨ k = 2) (op o : Int) (ho : inOp op) (ho' : inOp o) (a b : ByteArray) (e1 v1 r1 e2 v2 r2 : ByteArray) (d : Int) (n1 : r1.toList.isEmpty = false) (n2 : r2.toList.isEmpty = false) (hs : 0 < d) (w : World)
    (hP : ∀ w, Calls Tryd.prog 33 #[.int .i64 k, .string a, .string b] w fun en w' => en = .returned (.tuple #[.agg #[.string e1, .string v1, .string r1], .agg #[.string e2, .string v2, .string r2], .int .i64 0]) ∧ Below w.heap.size w w')
    (hQ : ∀ w, Calls Tryd.prog 34 #[.int .i64 k, .agg #[.string e1, .string v1, .string r1], .agg #[.string e2, .string v2, .string r2]] w fun e w' => e = .returned (.tuple #[.int .i64 0, .int .i64 d]) ∧ Below w.heap.size w w')
    (res : Bool) (hV : res = meetsC op o d) :
    Calls Tryd.prog 17 #[.int .i64 k, .int .i64 op, .string a, .int .i64 o, .string b] w fun en w' => en = .returned (.tuple #[.bool res, .int .i64 0]) ∧ Below w.heap.size w w' := by
  have HP := Lib.hid hP
  have HQ := Lib.hid hQ
  clear hP hQ
  obtain ⟨o1, o2⟩ := ho
  obtain ⟨o3, o4⟩ := ho'
  have z1 : (op == 0) = false := beq_eq_false_iff_ne.2 (by omega)
  have z2 : (o == 0) = false := beq_eq_false_iff_ne.2 (by omega)
  have m1 : 0 ≤ op := by omega
  have m2 := o2
  have m3 : 0 ≤ o := by omega
  have m4 := o4
  have C1 : ¬ d < 0 := by omega
  have K0 := has1 op m1 m2
  by_cases gop1 : op % 2 = 1
  · rw [decide_eq_true gop1] at K0
    have Kop1 := Lib.hid K0
    clear K0
    obtain rfl : res = true := by rw [hV, meetsC_gt hs]; simp [gop1]
    clear hV gop1
    rcases hk with rfl | rfl
    all_goals
      go_enter Tryd.func17, Tryd.ntmps17
      go_wp2_with fail
      refine (HP.out _).mono ?_
      rintro e w1 ⟨rfl, hb⟩
      have HB := Lib.hid hb
      clear hb
      go_wp2_with fail
      refine (HQ.out _).mono ?_
      rintro e w2 ⟨rfl, hb⟩
      have HB2 := Lib.hid (HB.out.trans (below_to (below_tr (below2 w1 _ _) (below_to hb (by simp))) HB.out.size))
      have hbx := boxes2 w1 e1 v1 r1 e2 v2 r2
      have x1 := hbx.1.below hb
      have x2 := hbx.2.below hb
      clear hb hbx
      obtain ⟨_, _, _, _, _, _, _⟩ := x1
      obtain ⟨_, _, _, _, _, _, _⟩ := x2
      go_wp2_with fail
      refine (Kop1.out _).mono ?_
      rintro e w' ⟨rfl, rfl⟩
      go_wp2
      go_ret2
      exact ⟨rfl, HB2.out⟩
  · rw [decide_eq_false gop1] at K0
    have Kop1 := Lib.hid K0
    clear K0
    have K0 := has4 o m3 m4
    by_cases go4 : o / 4 % 2 = 1
    · rw [decide_eq_true go4] at K0
      have Ko4 := Lib.hid K0
      clear K0
      obtain rfl : res = true := by rw [hV, meetsC_gt hs]; simp [gop1, go4]
      clear hV gop1 go4
      rcases hk with rfl | rfl
      all_goals
        go_enter Tryd.func17, Tryd.ntmps17
        go_wp2_with fail
        refine (HP.out _).mono ?_
        rintro e w1 ⟨rfl, hb⟩
        have HB := Lib.hid hb
        clear hb
        go_wp2_with fail
        refine (HQ.out _).mono ?_
        rintro e w2 ⟨rfl, hb⟩
        have HB2 := Lib.hid (HB.out.trans (below_to (below_tr (below2 w1 _ _) (below_to hb (by simp))) HB.out.size))
        have hbx := boxes2 w1 e1 v1 r1 e2 v2 r2
        have x1 := hbx.1.below hb
        have x2 := hbx.2.below hb
        clear hb hbx
        obtain ⟨_, _, _, _, _, _, _⟩ := x1
        obtain ⟨_, _, _, _, _, _, _⟩ := x2
        go_wp2_with fail
        refine (Kop1.out _).mono ?_
        rintro e w' ⟨rfl, rfl⟩
        go_wp2_with fail
        refine (Ko4.out _).mono ?_
        rintro e w' ⟨rfl, rfl⟩
        go_wp2
        go_ret2
        exact ⟨rfl, HB2.out⟩
    · rw [decide_eq_false go4] at K0
      have Ko4 := Lib.hid K0
      clear K0
      obtain rfl : res = false := by rw [hV, meetsC_gt hs]; simp [gop1, go4]
      clear hV gop1 go4
      rcases hk with rfl | rfl
      all_goals
        go_enter Tryd.func17, Tryd.ntmps17
        go_wp2_with fail
        refine (HP.out _).mono ?_
        rintro e w1 ⟨rfl, hb⟩
        have HB := Lib.hid hb
        clear hb
        go_wp2_with fail
        refine (HQ.out _).mono ?_
        rintro e w2 ⟨rfl, hb⟩
        have HB2 := Lib.hid (HB.out.trans (below_to (below_tr (below2 w1 _ _) (below_to hb (by simp))) HB.out.size))
        have hbx := boxes2 w1 e1 v1 r1 e2 v2 r2
        have x1 := hbx.1.below hb
        have x2 := hbx.2.below hb
        clear hb hbx
        obtain ⟨_, _, _, _, _, _, _⟩ := x1
        obtain ⟨_, _, _, _, _, _, _⟩ := x2
        go_wp2_with fail
        refine (Kop1.out _).mono ?_
        rintro e w' ⟨rfl, rfl⟩
        go_wp2_with fail
        refine (Ko4.out _).mono ?_
        rintro e w' ⟨rfl, rfl⟩
        go_wp2
        go_ret2
        exact ⟨rfl, HB2.out⟩
end Go.Proofs.YtgggbjkgpjcklaaDoor
