/-
  Meets: the contract. Helper text (printed by gen_meets.py); the conditions are those typed.
-/
import Derived.Test.YtgggbjkgpjcklaaDoorWalkI
namespace Go.Proofs.YtgggbjkgpjcklaaDoor
set_option linter.unusedVariables false
set_option linter.unusedSimpArgs false
open Go.RowKit

def inOp (op : Int) : Prop := 1 ≤ op ∧ op ≤ 7
theorem inOp_cases {op : Int} (h : inOp op) : op = 1 ∨ op = 2 ∨ op = 3 ∨ op = 4 ∨ op = 5 ∨ op = 6 ∨ op = 7 := by
  unfold inOp at h; omega

def bit4 (op : Int) : Int := 4 * (op / 4 % 2)
def bit1 (op : Int) : Int := op % 2
def both12 (op o : Int) : Int := 4 * ((op / 4 % 2) * (o / 4 % 2)) + 2 * ((op / 2 % 2) * (o / 2 % 2)) + (op % 2) * (o % 2)
theorem and4 (op : Int) (h : inOp op) : bits BinOp.and IntKind.i64 op 4 = bit4 op := by
  rcases inOp_cases h with rfl | rfl | rfl | rfl | rfl | rfl | rfl <;> decide
theorem and1 (op : Int) (h : inOp op) : bits BinOp.and IntKind.i64 op 1 = bit1 op := by
  rcases inOp_cases h with rfl | rfl | rfl | rfl | rfl | rfl | rfl <;> decide
theorem and2 (op o : Int) (h : inOp op) (h' : inOp o) : bits BinOp.and IntKind.i64 op o = both12 op o := by
  rcases inOp_cases h with rfl | rfl | rfl | rfl | rfl | rfl | rfl <;> rcases inOp_cases h' with rfl | rfl | rfl | rfl | rfl | rfl | rfl <;> decide

/-- Meets, the versions being read. -/
def meetsV (op o c : Int) : Bool := if c < 0 then bit4 op != 0 || bit1 o != 0 else if 0 < c then bit1 op != 0 || bit4 o != 0 else both12 op o != 0
theorem meetsV_eq {op o : Int} (h : inOp op) (h' : inOp o) (c : Int) : meetsV op o c = meetsC op o c := by
  unfold meetsV meetsC
  split
  · rcases inOp_cases h with rfl | rfl | rfl | rfl | rfl | rfl | rfl <;> rcases inOp_cases h' with rfl | rfl | rfl | rfl | rfl | rfl | rfl <;> rfl
  · split
    · rcases inOp_cases h with rfl | rfl | rfl | rfl | rfl | rfl | rfl <;> rcases inOp_cases h' with rfl | rfl | rfl | rfl | rfl | rfl | rfl <;> rfl
    · rcases inOp_cases h with rfl | rfl | rfl | rfl | rfl | rfl | rfl <;> rcases inOp_cases h' with rfl | rfl | rfl | rfl | rfl | rfl | rfl <;> rfl
theorem meetsV_lt {op o c : Int} (h : c < 0) : meetsV op o c = (bit4 op != 0 || bit1 o != 0) := if_pos h
theorem meetsV_gt {op o c : Int} (h : 0 < c) : meetsV op o c = (bit1 op != 0 || bit4 o != 0) := (if_neg (by omega)).trans (if_pos h)
theorem meetsV_eq0 {op o : Int} : meetsV op o 0 = (both12 op o != 0) := rfl
def relC (c d : Int) (r1 r2 : ByteArray) : Int := if c = 0 ∧ r1.size ≠ 0 ∧ r2.size ≠ 0 then d else c

set_option maxHeartbeats 1000000 in
theorem meets_lt (k : Int) (hk : k = 1 ∨ k = 2) (op o : Int) (ho : inOp op) (ho' : inOp o) (a b : ByteArray) (e1 v1 r1 e2 v2 r2 : ByteArray) (c d : Int) (hs : c < 0) (w : World)
    (hP : ∀ w, Calls Tryd.prog 30 #[.int .i64 k, .string a, .string b] w fun en w' => en = .returned (.tuple #[.agg #[.string e1, .string v1, .string r1], .agg #[.string e2, .string v2, .string r2], .int .i64 0]) ∧ Below w.heap.size w w')
    (hQ : ∀ w, Calls Tryd.prog 32 #[.int .i64 k, .agg #[.string e1, .string v1, .string r1], .agg #[.string e2, .string v2, .string r2]] w fun e w' => e = .returned (.tuple #[.int .i64 c, .int .i64 d]) ∧ Below w.heap.size w w')
    (res : Bool) (hV : res = meetsV op o c) :
    Calls Tryd.prog 16 #[.int .i64 k, .int .i64 op, .string a, .int .i64 o, .string b] w fun en w' => en = .returned (.tuple #[.bool res, .int .i64 0]) ∧ Below w.heap.size w w' := by
  have HP := Lib.hid hP
  have HQ := Lib.hid hQ
  clear hP hQ
  obtain ⟨o1, o2⟩ := ho
  obtain ⟨o3, o4⟩ := ho'
  have A4 := and4 op ⟨o1, o2⟩
  have A1 := and1 op ⟨o1, o2⟩
  have B4 := and4 o ⟨o3, o4⟩
  have B1 := and1 o ⟨o3, o4⟩
  have AB := and2 op o ⟨o1, o2⟩ ⟨o3, o4⟩
  have z1 : (op == 0) = false := by simp; omega
  have z2 : (o == 0) = false := by simp; omega
  have C0 : (c == 0) = false := by simp; omega
  by_cases q1 : bit4 op = 0
  · have Q1 : (bit4 op != 0) = false := by simpa using q1
    by_cases q2 : bit1 o = 0
    · have Q2 : (bit1 o != 0) = false := by simpa using q2
      have HV : Hid (res = false) := by rw [hV, meetsV_lt hs, Q1, Q2]; rfl
      clear hV q1 q2
      rcases hk with rfl | rfl
      all_goals
        go_enter Tryd.func16, Tryd.ntmps16
        go_wp2_with fail
        refine (HP.out _).mono ?_
        rintro e w1 ⟨rfl, hb⟩
        have HB := Lib.hid hb
        clear hb
        go_wp2_with fail
        refine (HQ.out _).mono ?_
        rintro e w2 ⟨rfl, hb⟩
        have HB2 := Lib.hid (HB.out.trans (below_to (below_tr (below2 w1 _ _) (below_to hb (by simp))) HB.out.size))
        have hbx := boxes2 w1 e1 v1 r1 e2 v2 r2
        have x1 := hbx.1.below hb
        have x2 := hbx.2.below hb
        clear hb hbx
        obtain ⟨_, _, _, _, _, _, _⟩ := x1
        obtain ⟨_, _, _, _, _, _, _⟩ := x2
        go_wp2
        go_ret2
        exact ⟨by rw [HV.out]; rfl, HB2.out⟩
    · have Q2 : (bit1 o != 0) = true := by simpa using q2
      have HV : Hid (res = true) := by rw [hV, meetsV_lt hs, Q1, Q2]; rfl
      clear hV q1 q2
      rcases hk with rfl | rfl
      all_goals
        go_enter Tryd.func16, Tryd.ntmps16
        go_wp2_with fail
        refine (HP.out _).mono ?_
        rintro e w1 ⟨rfl, hb⟩
        have HB := Lib.hid hb
        clear hb
        go_wp2_with fail
        refine (HQ.out _).mono ?_
        rintro e w2 ⟨rfl, hb⟩
        have HB2 := Lib.hid (HB.out.trans (below_to (below_tr (below2 w1 _ _) (below_to hb (by simp))) HB.out.size))
        have hbx := boxes2 w1 e1 v1 r1 e2 v2 r2
        have x1 := hbx.1.below hb
        have x2 := hbx.2.below hb
        clear hb hbx
        obtain ⟨_, _, _, _, _, _, _⟩ := x1
        obtain ⟨_, _, _, _, _, _, _⟩ := x2
        go_wp2
        go_ret2
        exact ⟨by rw [HV.out]; rfl, HB2.out⟩
  · have Q1 : (bit4 op != 0) = true := by simpa using q1
    have HV : Hid (res = true) := by rw [hV, meetsV_lt hs, Q1]; rfl
    clear hV q1
    rcases hk with rfl | rfl
    all_goals
      go_enter Tryd.func16, Tryd.ntmps16
      go_wp2_with fail
      refine (HP.out _).mono ?_
      rintro e w1 ⟨rfl, hb⟩
      have HB := Lib.hid hb
      clear hb
      go_wp2_with fail
      refine (HQ.out _).mono ?_
      rintro e w2 ⟨rfl, hb⟩
      have HB2 := Lib.hid (HB.out.trans (below_to (below_tr (below2 w1 _ _) (below_to hb (by simp))) HB.out.size))
      have hbx := boxes2 w1 e1 v1 r1 e2 v2 r2
      have x1 := hbx.1.below hb
      have x2 := hbx.2.below hb
      clear hb hbx
      obtain ⟨_, _, _, _, _, _, _⟩ := x1
      obtain ⟨_, _, _, _, _, _, _⟩ := x2
      go_wp2
      go_ret2
      exact ⟨by rw [HV.out]; rfl, HB2.out⟩

set_option maxHeartbeats 1000000 in
theorem meets_gt (k : Int) (hk : k = 1 ∨ k = 2) (op o : Int) (ho : inOp op) (ho' : inOp o) (a b : ByteArray) (e1 v1 r1 e2 v2 r2 : ByteArray) (c d : Int) (hs : 0 < c) (w : World)
    (hP : ∀ w, Calls Tryd.prog 30 #[.int .i64 k, .string a, .string b] w fun en w' => en = .returned (.tuple #[.agg #[.string e1, .string v1, .string r1], .agg #[.string e2, .string v2, .string r2], .int .i64 0]) ∧ Below w.heap.size w w')
    (hQ : ∀ w, Calls Tryd.prog 32 #[.int .i64 k, .agg #[.string e1, .string v1, .string r1], .agg #[.string e2, .string v2, .string r2]] w fun e w' => e = .returned (.tuple #[.int .i64 c, .int .i64 d]) ∧ Below w.heap.size w w')
    (res : Bool) (hV : res = meetsV op o c) :
    Calls Tryd.prog 16 #[.int .i64 k, .int .i64 op, .string a, .int .i64 o, .string b] w fun en w' => en = .returned (.tuple #[.bool res, .int .i64 0]) ∧ Below w.heap.size w w' := by
  have HP := Lib.hid hP
  have HQ := Lib.hid hQ
  clear hP hQ
  obtain ⟨o1, o2⟩ := ho
  obtain ⟨o3, o4⟩ := ho'
  have A4 := and4 op ⟨o1, o2⟩
  have A1 := and1 op ⟨o1, o2⟩
  have B4 := and4 o ⟨o3, o4⟩
  have B1 := and1 o ⟨o3, o4⟩
  have AB := and2 op o ⟨o1, o2⟩ ⟨o3, o4⟩
  have z1 : (op == 0) = false := by simp; omega
  have z2 : (o == 0) = false := by simp; omega
  have C0 : (c == 0) = false := by simp; omega
  have C1 : ¬ c < 0 := by omega
  by_cases q1 : bit1 op = 0
  · have Q1 : (bit1 op != 0) = false := by simpa using q1
    by_cases q2 : bit4 o = 0
    · have Q2 : (bit4 o != 0) = false := by simpa using q2
      have HV : Hid (res = false) := by rw [hV, meetsV_gt hs, Q1, Q2]; rfl
      clear hV q1 q2
      rcases hk with rfl | rfl
      all_goals
        go_enter Tryd.func16, Tryd.ntmps16
        go_wp2_with fail
        refine (HP.out _).mono ?_
        rintro e w1 ⟨rfl, hb⟩
        have HB := Lib.hid hb
        clear hb
        go_wp2_with fail
        refine (HQ.out _).mono ?_
        rintro e w2 ⟨rfl, hb⟩
        have HB2 := Lib.hid (HB.out.trans (below_to (below_tr (below2 w1 _ _) (below_to hb (by simp))) HB.out.size))
        have hbx := boxes2 w1 e1 v1 r1 e2 v2 r2
        have x1 := hbx.1.below hb
        have x2 := hbx.2.below hb
        clear hb hbx
        obtain ⟨_, _, _, _, _, _, _⟩ := x1
        obtain ⟨_, _, _, _, _, _, _⟩ := x2
        go_wp2
        go_ret2
        exact ⟨by rw [HV.out]; rfl, HB2.out⟩
    · have Q2 : (bit4 o != 0) = true := by simpa using q2
      have HV : Hid (res = true) := by rw [hV, meetsV_gt hs, Q1, Q2]; rfl
      clear hV q1 q2
      rcases hk with rfl | rfl
      all_goals
        go_enter Tryd.func16, Tryd.ntmps16
        go_wp2_with fail
        refine (HP.out _).mono ?_
        rintro e w1 ⟨rfl, hb⟩
        have HB := Lib.hid hb
        clear hb
        go_wp2_with fail
        refine (HQ.out _).mono ?_
        rintro e w2 ⟨rfl, hb⟩
        have HB2 := Lib.hid (HB.out.trans (below_to (below_tr (below2 w1 _ _) (below_to hb (by simp))) HB.out.size))
        have hbx := boxes2 w1 e1 v1 r1 e2 v2 r2
        have x1 := hbx.1.below hb
        have x2 := hbx.2.below hb
        clear hb hbx
        obtain ⟨_, _, _, _, _, _, _⟩ := x1
        obtain ⟨_, _, _, _, _, _, _⟩ := x2
        go_wp2
        go_ret2
        exact ⟨by rw [HV.out]; rfl, HB2.out⟩
  · have Q1 : (bit1 op != 0) = true := by simpa using q1
    have HV : Hid (res = true) := by rw [hV, meetsV_gt hs, Q1]; rfl
    clear hV q1
    rcases hk with rfl | rfl
    all_goals
      go_enter Tryd.func16, Tryd.ntmps16
      go_wp2_with fail
      refine (HP.out _).mono ?_
      rintro e w1 ⟨rfl, hb⟩
      have HB := Lib.hid hb
      clear hb
      go_wp2_with fail
      refine (HQ.out _).mono ?_
      rintro e w2 ⟨rfl, hb⟩
      have HB2 := Lib.hid (HB.out.trans (below_to (below_tr (below2 w1 _ _) (below_to hb (by simp))) HB.out.size))
      have hbx := boxes2 w1 e1 v1 r1 e2 v2 r2
      have x1 := hbx.1.below hb
      have x2 := hbx.2.below hb
      clear hb hbx
      obtain ⟨_, _, _, _, _, _, _⟩ := x1
      obtain ⟨_, _, _, _, _, _, _⟩ := x2
      go_wp2
      go_ret2
      exact ⟨by rw [HV.out]; rfl, HB2.out⟩

set_option maxHeartbeats 1000000 in
theorem meets_e1 (k : Int) (hk : k = 1 ∨ k = 2) (op o : Int) (ho : inOp op) (ho' : inOp o) (a b : ByteArray) (e1 v1 e2 v2 r2 : ByteArray) (d : Int) (w : World)
    (hP : ∀ w, Calls Tryd.prog 30 #[.int .i64 k, .string a, .string b] w fun en w' => en = .returned (.tuple #[.agg #[.string e1, .string v1, .string ⟨#[]⟩], .agg #[.string e2, .string v2, .string r2], .int .i64 0]) ∧ Below w.heap.size w w')
    (hQ : ∀ w, Calls Tryd.prog 32 #[.int .i64 k, .agg #[.string e1, .string v1, .string ⟨#[]⟩], .agg #[.string e2, .string v2, .string r2]] w fun e w' => e = .returned (.tuple #[.int .i64 0, .int .i64 d]) ∧ Below w.heap.size w w')
    (res : Bool) (hV : res = meetsV op o 0) :
    Calls Tryd.prog 16 #[.int .i64 k, .int .i64 op, .string a, .int .i64 o, .string b] w fun en w' => en = .returned (.tuple #[.bool res, .int .i64 0]) ∧ Below w.heap.size w w' := by
  have HP := Lib.hid hP
  have HQ := Lib.hid hQ
  clear hP hQ
  obtain ⟨o1, o2⟩ := ho
  obtain ⟨o3, o4⟩ := ho'
  have A4 := and4 op ⟨o1, o2⟩
  have A1 := and1 op ⟨o1, o2⟩
  have B4 := and4 o ⟨o3, o4⟩
  have B1 := and1 o ⟨o3, o4⟩
  have AB := and2 op o ⟨o1, o2⟩ ⟨o3, o4⟩
  have z1 : (op == 0) = false := by simp; omega
  have z2 : (o == 0) = false := by simp; omega
  have HV : Hid (res = (both12 op o != 0)) := hV.trans meetsV_eq0
  clear hV
  rcases hk with rfl | rfl
  all_goals
    go_enter Tryd.func16, Tryd.ntmps16
    go_wp2_with fail
    refine (HP.out _).mono ?_
    rintro e w1 ⟨rfl, hb⟩
    have HB := Lib.hid hb
    clear hb
    go_wp2_with fail
    refine (HQ.out _).mono ?_
    rintro e w2 ⟨rfl, hb⟩
    have HB2 := Lib.hid (HB.out.trans (below_to (below_tr (below2 w1 _ _) (below_to hb (by simp))) HB.out.size))
    have hbx := boxes2 w1 e1 v1 ⟨#[]⟩ e2 v2 r2
    have x1 := hbx.1.below hb
    have x2 := hbx.2.below hb
    clear hb hbx
    obtain ⟨_, _, _, _, _, _, _⟩ := x1
    obtain ⟨_, _, _, _, _, _, _⟩ := x2
    go_wp2
    go_ret2
    exact ⟨by rw [HV.out]; rfl, HB2.out⟩

set_option maxHeartbeats 1000000 in
theorem meets_e2 (k : Int) (hk : k = 1 ∨ k = 2) (op o : Int) (ho : inOp op) (ho' : inOp o) (a b : ByteArray) (e1 v1 r1 e2 v2 : ByteArray) (d : Int) (n1 : r1.toList.isEmpty = false) (w : World)
    (hP : ∀ w, Calls Tryd.prog 30 #[.int .i64 k, .string a, .string b] w fun en w' => en = .returned (.tuple #[.agg #[.string e1, .string v1, .string r1], .agg #[.string e2, .string v2, .string ⟨#[]⟩], .int .i64 0]) ∧ Below w.heap.size w w')
    (hQ : ∀ w, Calls Tryd.prog 32 #[.int .i64 k, .agg #[.string e1, .string v1, .string r1], .agg #[.string e2, .string v2, .string ⟨#[]⟩]] w fun e w' => e = .returned (.tuple #[.int .i64 0, .int .i64 d]) ∧ Below w.heap.size w w')
    (res : Bool) (hV : res = meetsV op o 0) :
    Calls Tryd.prog 16 #[.int .i64 k, .int .i64 op, .string a, .int .i64 o, .string b] w fun en w' => en = .returned (.tuple #[.bool res, .int .i64 0]) ∧ Below w.heap.size w w' := by
  have HP := Lib.hid hP
  have HQ := Lib.hid hQ
  clear hP hQ
  obtain ⟨o1, o2⟩ := ho
  obtain ⟨o3, o4⟩ := ho'
  have A4 := and4 op ⟨o1, o2⟩
  have A1 := and1 op ⟨o1, o2⟩
  have B4 := and4 o ⟨o3, o4⟩
  have B1 := and1 o ⟨o3, o4⟩
  have AB := and2 op o ⟨o1, o2⟩ ⟨o3, o4⟩
  have z1 : (op == 0) = false := by simp; omega
  have z2 : (o == 0) = false := by simp; omega
  have HV : Hid (res = (both12 op o != 0)) := hV.trans meetsV_eq0
  clear hV
  rcases hk with rfl | rfl
  all_goals
    go_enter Tryd.func16, Tryd.ntmps16
    go_wp2_with fail
    refine (HP.out _).mono ?_
    rintro e w1 ⟨rfl, hb⟩
    have HB := Lib.hid hb
    clear hb
    go_wp2_with fail
    refine (HQ.out _).mono ?_
    rintro e w2 ⟨rfl, hb⟩
    have HB2 := Lib.hid (HB.out.trans (below_to (below_tr (below2 w1 _ _) (below_to hb (by simp))) HB.out.size))
    have hbx := boxes2 w1 e1 v1 r1 e2 v2 ⟨#[]⟩
    have x1 := hbx.1.below hb
    have x2 := hbx.2.below hb
    clear hb hbx
    obtain ⟨_, _, _, _, _, _, _⟩ := x1
    obtain ⟨_, _, _, _, _, _, _⟩ := x2
    go_wp2
    go_ret2
    exact ⟨by rw [HV.out]; rfl, HB2.out⟩

set_option maxHeartbeats 1000000 in
theorem meets_dlt (k : Int) (hk : k = 1 ∨ k = 2) (op o : Int) (ho : inOp op) (ho' : inOp o) (a b : ByteArray) (e1 v1 r1 e2 v2 r2 : ByteArray) (d : Int) (n1 : r1.toList.isEmpty = false) (n2 : r2.toList.isEmpty = false) (hs : d < 0) (w : World)
    (hP : ∀ w, Calls Tryd.prog 30 #[.int .i64 k, .string a, .string b] w fun en w' => en = .returned (.tuple #[.agg #[.string e1, .string v1, .string r1], .agg #[.string e2, .string v2, .string r2], .int .i64 0]) ∧ Below w.heap.size w w')
    (hQ : ∀ w, Calls Tryd.prog 32 #[.int .i64 k, .agg #[.string e1, .string v1, .string r1], .agg #[.string e2, .string v2, .string r2]] w fun e w' => e = .returned (.tuple #[.int .i64 0, .int .i64 d]) ∧ Below w.heap.size w w')
    (res : Bool) (hV : res = meetsV op o d) :
    Calls Tryd.prog 16 #[.int .i64 k, .int .i64 op, .string a, .int .i64 o, .string b] w fun en w' => en = .returned (.tuple #[.bool res, .int .i64 0]) ∧ Below w.heap.size w w' := by
  have HP := Lib.hid hP
  have HQ := Lib.hid hQ
  clear hP hQ
  obtain ⟨o1, o2⟩ := ho
  obtain ⟨o3, o4⟩ := ho'
  have A4 := and4 op ⟨o1, o2⟩
  have A1 := and1 op ⟨o1, o2⟩
  have B4 := and4 o ⟨o3, o4⟩
  have B1 := and1 o ⟨o3, o4⟩
  have AB := and2 op o ⟨o1, o2⟩ ⟨o3, o4⟩
  have z1 : (op == 0) = false := by simp; omega
  have z2 : (o == 0) = false := by simp; omega
  by_cases q1 : bit4 op = 0
  · have Q1 : (bit4 op != 0) = false := by simpa using q1
    by_cases q2 : bit1 o = 0
    · have Q2 : (bit1 o != 0) = false := by simpa using q2
      have HV : Hid (res = false) := by rw [hV, meetsV_lt hs, Q1, Q2]; rfl
      clear hV q1 q2
      rcases hk with rfl | rfl
      all_goals
        go_enter Tryd.func16, Tryd.ntmps16
        go_wp2_with fail
        refine (HP.out _).mono ?_
        rintro e w1 ⟨rfl, hb⟩
        have HB := Lib.hid hb
        clear hb
        go_wp2_with fail
        refine (HQ.out _).mono ?_
        rintro e w2 ⟨rfl, hb⟩
        have HB2 := Lib.hid (HB.out.trans (below_to (below_tr (below2 w1 _ _) (below_to hb (by simp))) HB.out.size))
        have hbx := boxes2 w1 e1 v1 r1 e2 v2 r2
        have x1 := hbx.1.below hb
        have x2 := hbx.2.below hb
        clear hb hbx
        obtain ⟨_, _, _, _, _, _, _⟩ := x1
        obtain ⟨_, _, _, _, _, _, _⟩ := x2
        go_wp2
        go_ret2
        exact ⟨by rw [HV.out]; rfl, HB2.out⟩
    · have Q2 : (bit1 o != 0) = true := by simpa using q2
      have HV : Hid (res = true) := by rw [hV, meetsV_lt hs, Q1, Q2]; rfl
      clear hV q1 q2
      rcases hk with rfl | rfl
      all_goals
        go_enter Tryd.func16, Tryd.ntmps16
        go_wp2_with fail
        refine (HP.out _).mono ?_
        rintro e w1 ⟨rfl, hb⟩
        have HB := Lib.hid hb
        clear hb
        go_wp2_with fail
        refine (HQ.out _).mono ?_
        rintro e w2 ⟨rfl, hb⟩
        have HB2 := Lib.hid (HB.out.trans (below_to (below_tr (below2 w1 _ _) (below_to hb (by simp))) HB.out.size))
        have hbx := boxes2 w1 e1 v1 r1 e2 v2 r2
        have x1 := hbx.1.below hb
        have x2 := hbx.2.below hb
        clear hb hbx
        obtain ⟨_, _, _, _, _, _, _⟩ := x1
        obtain ⟨_, _, _, _, _, _, _⟩ := x2
        go_wp2
        go_ret2
        exact ⟨by rw [HV.out]; rfl, HB2.out⟩
  · have Q1 : (bit4 op != 0) = true := by simpa using q1
    have HV : Hid (res = true) := by rw [hV, meetsV_lt hs, Q1]; rfl
    clear hV q1
    rcases hk with rfl | rfl
    all_goals
      go_enter Tryd.func16, Tryd.ntmps16
      go_wp2_with fail
      refine (HP.out _).mono ?_
      rintro e w1 ⟨rfl, hb⟩
      have HB := Lib.hid hb
      clear hb
      go_wp2_with fail
      refine (HQ.out _).mono ?_
      rintro e w2 ⟨rfl, hb⟩
      have HB2 := Lib.hid (HB.out.trans (below_to (below_tr (below2 w1 _ _) (below_to hb (by simp))) HB.out.size))
      have hbx := boxes2 w1 e1 v1 r1 e2 v2 r2
      have x1 := hbx.1.below hb
      have x2 := hbx.2.below hb
      clear hb hbx
      obtain ⟨_, _, _, _, _, _, _⟩ := x1
      obtain ⟨_, _, _, _, _, _, _⟩ := x2
      go_wp2
      go_ret2
      exact ⟨by rw [HV.out]; rfl, HB2.out⟩

set_option maxHeartbeats 1000000 in
theorem meets_dgt (k : Int) (hk : k = 1 ∨ k = 2) (op o : Int) (ho : inOp op) (ho' : inOp o) (a b : ByteArray) (e1 v1 r1 e2 v2 r2 : ByteArray) (d : Int) (n1 : r1.toList.isEmpty = false) (n2 : r2.toList.isEmpty = false) (hs : 0 < d) (w : World)
    (hP : ∀ w, Calls Tryd.prog 30 #[.int .i64 k, .string a, .string b] w fun en w' => en = .returned (.tuple #[.agg #[.string e1, .string v1, .string r1], .agg #[.string e2, .string v2, .string r2], .int .i64 0]) ∧ Below w.heap.size w w')
    (hQ : ∀ w, Calls Tryd.prog 32 #[.int .i64 k, .agg #[.string e1, .string v1, .string r1], .agg #[.string e2, .string v2, .string r2]] w fun e w' => e = .returned (.tuple #[.int .i64 0, .int .i64 d]) ∧ Below w.heap.size w w')
    (res : Bool) (hV : res = meetsV op o d) :
    Calls Tryd.prog 16 #[.int .i64 k, .int .i64 op, .string a, .int .i64 o, .string b] w fun en w' => en = .returned (.tuple #[.bool res, .int .i64 0]) ∧ Below w.heap.size w w' := by
  have HP := Lib.hid hP
  have HQ := Lib.hid hQ
  clear hP hQ
  obtain ⟨o1, o2⟩ := ho
  obtain ⟨o3, o4⟩ := ho'
  have A4 := and4 op ⟨o1, o2⟩
  have A1 := and1 op ⟨o1, o2⟩
  have B4 := and4 o ⟨o3, o4⟩
  have B1 := and1 o ⟨o3, o4⟩
  have AB := and2 op o ⟨o1, o2⟩ ⟨o3, o4⟩
  have z1 : (op == 0) = false := by simp; omega
  have z2 : (o == 0) = false := by simp; omega
  have C1 : ¬ d < 0 := by omega
  by_cases q1 : bit1 op = 0
  · have Q1 : (bit1 op != 0) = false := by simpa using q1
    by_cases q2 : bit4 o = 0
    · have Q2 : (bit4 o != 0) = false := by simpa using q2
      have HV : Hid (res = false) := by rw [hV, meetsV_gt hs, Q1, Q2]; rfl
      clear hV q1 q2
      rcases hk with rfl | rfl
      all_goals
        go_enter Tryd.func16, Tryd.ntmps16
        go_wp2_with fail
        refine (HP.out _).mono ?_
        rintro e w1 ⟨rfl, hb⟩
        have HB := Lib.hid hb
        clear hb
        go_wp2_with fail
        refine (HQ.out _).mono ?_
        rintro e w2 ⟨rfl, hb⟩
        have HB2 := Lib.hid (HB.out.trans (below_to (below_tr (below2 w1 _ _) (below_to hb (by simp))) HB.out.size))
        have hbx := boxes2 w1 e1 v1 r1 e2 v2 r2
        have x1 := hbx.1.below hb
        have x2 := hbx.2.below hb
        clear hb hbx
        obtain ⟨_, _, _, _, _, _, _⟩ := x1
        obtain ⟨_, _, _, _, _, _, _⟩ := x2
        go_wp2
        go_ret2
        exact ⟨by rw [HV.out]; rfl, HB2.out⟩
    · have Q2 : (bit4 o != 0) = true := by simpa using q2
      have HV : Hid (res = true) := by rw [hV, meetsV_gt hs, Q1, Q2]; rfl
      clear hV q1 q2
      rcases hk with rfl | rfl
      all_goals
        go_enter Tryd.func16, Tryd.ntmps16
        go_wp2_with fail
        refine (HP.out _).mono ?_
        rintro e w1 ⟨rfl, hb⟩
        have HB := Lib.hid hb
        clear hb
        go_wp2_with fail
        refine (HQ.out _).mono ?_
        rintro e w2 ⟨rfl, hb⟩
        have HB2 := Lib.hid (HB.out.trans (below_to (below_tr (below2 w1 _ _) (below_to hb (by simp))) HB.out.size))
        have hbx := boxes2 w1 e1 v1 r1 e2 v2 r2
        have x1 := hbx.1.below hb
        have x2 := hbx.2.below hb
        clear hb hbx
        obtain ⟨_, _, _, _, _, _, _⟩ := x1
        obtain ⟨_, _, _, _, _, _, _⟩ := x2
        go_wp2
        go_ret2
        exact ⟨by rw [HV.out]; rfl, HB2.out⟩
  · have Q1 : (bit1 op != 0) = true := by simpa using q1
    have HV : Hid (res = true) := by rw [hV, meetsV_gt hs, Q1]; rfl
    clear hV q1
    rcases hk with rfl | rfl
    all_goals
      go_enter Tryd.func16, Tryd.ntmps16
      go_wp2_with fail
      refine (HP.out _).mono ?_
      rintro e w1 ⟨rfl, hb⟩
      have HB := Lib.hid hb
      clear hb
      go_wp2_with fail
      refine (HQ.out _).mono ?_
      rintro e w2 ⟨rfl, hb⟩
      have HB2 := Lib.hid (HB.out.trans (below_to (below_tr (below2 w1 _ _) (below_to hb (by simp))) HB.out.size))
      have hbx := boxes2 w1 e1 v1 r1 e2 v2 r2
      have x1 := hbx.1.below hb
      have x2 := hbx.2.below hb
      clear hb hbx
      obtain ⟨_, _, _, _, _, _, _⟩ := x1
      obtain ⟨_, _, _, _, _, _, _⟩ := x2
      go_wp2
      go_ret2
      exact ⟨by rw [HV.out]; rfl, HB2.out⟩

set_option maxHeartbeats 1000000 in
theorem meets_d0 (k : Int) (hk : k = 1 ∨ k = 2) (op o : Int) (ho : inOp op) (ho' : inOp o) (a b : ByteArray) (e1 v1 r1 e2 v2 r2 : ByteArray) (n1 : r1.toList.isEmpty = false) (n2 : r2.toList.isEmpty = false) (w : World)
    (hP : ∀ w, Calls Tryd.prog 30 #[.int .i64 k, .string a, .string b] w fun en w' => en = .returned (.tuple #[.agg #[.string e1, .string v1, .string r1], .agg #[.string e2, .string v2, .string r2], .int .i64 0]) ∧ Below w.heap.size w w')
    (hQ : ∀ w, Calls Tryd.prog 32 #[.int .i64 k, .agg #[.string e1, .string v1, .string r1], .agg #[.string e2, .string v2, .string r2]] w fun e w' => e = .returned (.tuple #[.int .i64 0, .int .i64 0]) ∧ Below w.heap.size w w')
    (res : Bool) (hV : res = meetsV op o 0) :
    Calls Tryd.prog 16 #[.int .i64 k, .int .i64 op, .string a, .int .i64 o, .string b] w fun en w' => en = .returned (.tuple #[.bool res, .int .i64 0]) ∧ Below w.heap.size w w' := by
  have HP := Lib.hid hP
  have HQ := Lib.hid hQ
  clear hP hQ
  obtain ⟨o1, o2⟩ := ho
  obtain ⟨o3, o4⟩ := ho'
  have A4 := and4 op ⟨o1, o2⟩
  have A1 := and1 op ⟨o1, o2⟩
  have B4 := and4 o ⟨o3, o4⟩
  have B1 := and1 o ⟨o3, o4⟩
  have AB := and2 op o ⟨o1, o2⟩ ⟨o3, o4⟩
  have z1 : (op == 0) = false := by simp; omega
  have z2 : (o == 0) = false := by simp; omega
  have HV : Hid (res = (both12 op o != 0)) := hV.trans meetsV_eq0
  clear hV
  rcases hk with rfl | rfl
  all_goals
    go_enter Tryd.func16, Tryd.ntmps16
    go_wp2_with fail
    refine (HP.out _).mono ?_
    rintro e w1 ⟨rfl, hb⟩
    have HB := Lib.hid hb
    clear hb
    go_wp2_with fail
    refine (HQ.out _).mono ?_
    rintro e w2 ⟨rfl, hb⟩
    have HB2 := Lib.hid (HB.out.trans (below_to (below_tr (below2 w1 _ _) (below_to hb (by simp))) HB.out.size))
    have hbx := boxes2 w1 e1 v1 r1 e2 v2 r2
    have x1 := hbx.1.below hb
    have x2 := hbx.2.below hb
    clear hb hbx
    obtain ⟨_, _, _, _, _, _, _⟩ := x1
    obtain ⟨_, _, _, _, _, _, _⟩ := x2
    go_wp2
    go_ret2
    exact ⟨by rw [HV.out]; rfl, HB2.out⟩
end Go.Proofs.YtgggbjkgpjcklaaDoor
