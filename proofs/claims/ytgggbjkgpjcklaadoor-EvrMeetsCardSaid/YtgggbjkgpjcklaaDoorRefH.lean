/-
  Two versions parsed, Compare, as the document has them: the contracts. Helper text (printed by mk_refH.py); the conditions are those typed.
-/
import Derived.Test.YtgggbjkgpjcklaaDoorRefG
namespace Go.Proofs.YtgggbjkgpjcklaaDoor
set_option linter.unusedVariables false
set_option linter.unusedSimpArgs false
open Go.RowKit

theorem below_al {B : Nat} {w w' : World} (h : Below B w w') (hB : B ≤ w.heap.size) (o : Obj) : Below B w (w'.alloc o) := h.alloc (Nat.le_trans hB h.size) o

theorem rboth_bad (k : Int) (h1 : k ≠ 1) (h2 : k ≠ 2) (a b : ByteArray) (w : World) :
    Calls Tryd.prog 33 #[.int .i64 k, .string a, .string b] w fun en w' => en = .returned (.tuple #[.agg #[.string ⟨#[]⟩, .string ⟨#[]⟩, .string ⟨#[]⟩], .agg #[.string ⟨#[]⟩, .string ⟨#[]⟩, .string ⟨#[]⟩], .int .i64 1]) ∧ Below w.heap.size w w' := by
  have hB1 : (k != 1) = true := by simpa using h1
  have hB2 : (k != 2) = true := by simpa using h2
  go_enter Tryd.func33, Tryd.ntmps33
  go_wp2
  refine bodyPost_ret (v := .tuple #[.agg #[.string ⟨#[]⟩, .string ⟨#[]⟩, .string ⟨#[]⟩], .agg #[.string ⟨#[]⟩, .string ⟨#[]⟩, .string ⟨#[]⟩], .int .i64 1]) (by simp [results, Tryd.results33, go_sem]) rfl ⟨rfl, ?_⟩
  repeat (first | exact below2 _ _ _ | (refine below_sc ?_ (by simp) _ _))

set_option maxHeartbeats 1000000 in
theorem rboth_a (k : Int) (hk : k = 1 ∨ k = 2) (a b : ByteArray) (ha : a.size ≤ maxLen) (h : parse (bs a) = none) (w : World) :
    Calls Tryd.prog 33 #[.int .i64 k, .string a, .string b] w fun en w' => en = .returned (.tuple #[.agg #[.string ⟨#[]⟩, .string ⟨#[]⟩, .string ⟨#[]⟩], .agg #[.string ⟨#[]⟩, .string ⟨#[]⟩, .string ⟨#[]⟩], .int .i64 30]) ∧ Below w.heap.size w w' := by
  have HP := Lib.hid (rparse_none ha h)
  clear h ha
  have hbx := boxes2 w ⟨#[]⟩ ⟨#[]⟩ ⟨#[]⟩ ⟨#[]⟩ ⟨#[]⟩ ⟨#[]⟩
  have HX := Lib.hid hbx
  clear hbx
  rcases hk with rfl | rfl
  all_goals
    go_enter Tryd.func33, Tryd.ntmps33
    go_wp2_with fail
    refine (HP.out _).mono ?_
    rintro e w1 ⟨rfl, hb⟩
    have x1 := HX.out.1.below hb
    have x2 := HX.out.2.below hb
    have HB := Lib.hid ((below2 w _ _).trans (below_to hb (by simp; omega)))
    have X1 := Lib.hid x1
    have X2 := Lib.hid x2
    have l1 := x1.lt
    have l2 := x2.lt
    clear hb HX x1 x2
    have x1 := X1.out
    have x2 := X2.out
    have HB3 := HB
    clear HB X1 X2
    obtain ⟨_, _, _, _, _, _, _⟩ := x1
    obtain ⟨_, _, _, _, _, _, _⟩ := x2
    go_wp2
    refine bodyPost_ret (v := .tuple #[.agg #[.string ⟨#[]⟩, .string ⟨#[]⟩, .string ⟨#[]⟩], .agg #[.string ⟨#[]⟩, .string ⟨#[]⟩, .string ⟨#[]⟩], .int .i64 30]) (by simp [results, Tryd.results33, go_sem, *]) rfl ⟨rfl, ?_⟩
    refine below_al ?_ (Nat.le_refl _) _
    repeat (first | (with_reducible exact HB3.out) | (with_reducible refine below_sc ?_ (by omega) _ _))

set_option maxHeartbeats 1000000 in
theorem rboth_b (k : Int) (hk : k = 1 ∨ k = 2) (a b : ByteArray) (ha : a.size ≤ maxLen) (hb : b.size ≤ maxLen) {e1 v1 r1 : ByteArray} (h : parse (bs a) = some (bs e1, bs v1, bs r1)) (h' : parse (bs b) = none) (w : World) :
    Calls Tryd.prog 33 #[.int .i64 k, .string a, .string b] w fun en w' => en = .returned (.tuple #[.agg #[.string e1, .string v1, .string r1], .agg #[.string ⟨#[]⟩, .string ⟨#[]⟩, .string ⟨#[]⟩], .int .i64 30]) ∧ Below w.heap.size w w' := by
  have HP := Lib.hid (rparse_some ha h)
  have HQ := Lib.hid (rparse_none hb h')
  clear h ha h' hb
  have hbx := boxes2 w ⟨#[]⟩ ⟨#[]⟩ ⟨#[]⟩ ⟨#[]⟩ ⟨#[]⟩ ⟨#[]⟩
  have HX := Lib.hid hbx
  clear hbx
  rcases hk with rfl | rfl
  all_goals
    go_enter Tryd.func33, Tryd.ntmps33
    go_wp2_with fail
    refine (HP.out _).mono ?_
    rintro e w1 ⟨rfl, hb⟩
    have x1 := HX.out.1.below hb
    have x2 := HX.out.2.below hb
    have HB := Lib.hid ((below2 w _ _).trans (below_to hb (by simp; omega)))
    have X1 := Lib.hid x1
    have X2 := Lib.hid x2
    have l1 := x1.lt
    have l2 := x2.lt
    clear hb HX x1 x2
    have Y1 := Lib.hid (Box3.of (alloc_at w1 (.cells #[.string e1, .string v1, .string r1] 24)))
    have X1' := Lib.hid (X1.out.below (below1 w1 (.cells #[.string e1, .string v1, .string r1] 24)))
    have X2' := Lib.hid (X2.out.below (below1 w1 (.cells #[.string e1, .string v1, .string r1] 24)))
    have HB2 := Lib.hid (HB.out.trans (below_to (below1 w1 (.cells #[.string e1, .string v1, .string r1] 24)) HB.out.size))
    clear HB X1 X2
    go_wp2_with fail
    refine (HQ.out _).mono ?_
    rintro e w2 ⟨rfl, hb⟩
    have l3 : w1.heap.size < w2.heap.size := by have := hb.size; simp at this; omega
    have Z1 := (Y1.out.below hb).below (below1 w2 (.cells #[.string ⟨#[]⟩, .string ⟨#[]⟩, .string ⟨#[]⟩] 24))
    have Z2 := Box3.of (alloc_at w2 (.cells #[.string ⟨#[]⟩, .string ⟨#[]⟩, .string ⟨#[]⟩] 24))
    have x1 := (X1'.out.below hb).below (below1 w2 (.cells #[.string ⟨#[]⟩, .string ⟨#[]⟩, .string ⟨#[]⟩] 24))
    have x2 := (X2'.out.below hb).below (below1 w2 (.cells #[.string ⟨#[]⟩, .string ⟨#[]⟩, .string ⟨#[]⟩] 24))
    have HB3 : Hid (Below w.heap.size w (w2.alloc (.cells #[.string ⟨#[]⟩, .string ⟨#[]⟩, .string ⟨#[]⟩] 24))) := HB2.out.trans (below_to (below_tr hb (below1 w2 (.cells #[.string ⟨#[]⟩, .string ⟨#[]⟩, .string ⟨#[]⟩] 24))) HB2.out.size)
    clear hb Y1 X1' X2' HB2
    go_wp2_with fail
    obtain ⟨w3, en⟩ : ∃ w3, w2.alloc (.cells #[.string ⟨#[]⟩, .string ⟨#[]⟩, .string ⟨#[]⟩] 24) = w3 := ⟨_, rfl⟩
    rw [en] at Z1 Z2 x1 x2 HB3
    rw [en]
    clear en
    obtain ⟨_, p0, p1, p2, _, _, _⟩ := x1
    obtain ⟨_, q0, q1, q2, _, _, _⟩ := x2
    obtain ⟨_, _, _, _, _, _, _⟩ := Z1
    obtain ⟨_, _, _, _, _, _, _⟩ := Z2
    go_region
    go_wp2
    refine bodyPost_ret (v := .tuple #[.agg #[.string e1, .string v1, .string r1], .agg #[.string ⟨#[]⟩, .string ⟨#[]⟩, .string ⟨#[]⟩], .int .i64 30]) (by simp [results, Tryd.results33, go_sem, p0, p1, p2, q0, q1, q2]) rfl ⟨rfl, ?_⟩
    repeat (first | (with_reducible exact HB3.out) | (with_reducible refine below_sc ?_ (by omega) _ _) | (with_reducible refine Below.drew ?_))

set_option maxHeartbeats 1000000 in
theorem rboth_ok (k : Int) (hk : k = 1 ∨ k = 2) (a b : ByteArray) (ha : a.size ≤ maxLen) (hb : b.size ≤ maxLen) {e1 v1 r1 e2 v2 r2 : ByteArray} (h : parse (bs a) = some (bs e1, bs v1, bs r1)) (h' : parse (bs b) = some (bs e2, bs v2, bs r2)) (w : World) :
    Calls Tryd.prog 33 #[.int .i64 k, .string a, .string b] w fun en w' => en = .returned (.tuple #[.agg #[.string e1, .string v1, .string r1], .agg #[.string e2, .string v2, .string r2], .int .i64 0]) ∧ Below w.heap.size w w' := by
  have HP := Lib.hid (rparse_some ha h)
  have HQ := Lib.hid (rparse_some hb h')
  clear h ha h' hb
  have hbx := boxes2 w ⟨#[]⟩ ⟨#[]⟩ ⟨#[]⟩ ⟨#[]⟩ ⟨#[]⟩ ⟨#[]⟩
  have HX := Lib.hid hbx
  clear hbx
  rcases hk with rfl | rfl
  all_goals
    go_enter Tryd.func33, Tryd.ntmps33
    go_wp2_with fail
    refine (HP.out _).mono ?_
    rintro e w1 ⟨rfl, hb⟩
    have x1 := HX.out.1.below hb
    have x2 := HX.out.2.below hb
    have HB := Lib.hid ((below2 w _ _).trans (below_to hb (by simp; omega)))
    have X1 := Lib.hid x1
    have X2 := Lib.hid x2
    have l1 := x1.lt
    have l2 := x2.lt
    clear hb HX x1 x2
    have Y1 := Lib.hid (Box3.of (alloc_at w1 (.cells #[.string e1, .string v1, .string r1] 24)))
    have X1' := Lib.hid (X1.out.below (below1 w1 (.cells #[.string e1, .string v1, .string r1] 24)))
    have X2' := Lib.hid (X2.out.below (below1 w1 (.cells #[.string e1, .string v1, .string r1] 24)))
    have HB2 := Lib.hid (HB.out.trans (below_to (below1 w1 (.cells #[.string e1, .string v1, .string r1] 24)) HB.out.size))
    clear HB X1 X2
    go_wp2_with fail
    refine (HQ.out _).mono ?_
    rintro e w2 ⟨rfl, hb⟩
    have l3 : w1.heap.size < w2.heap.size := by have := hb.size; simp at this; omega
    have Z1 := (Y1.out.below hb).below (below1 w2 (.cells #[.string e2, .string v2, .string r2] 24))
    have Z2 := Box3.of (alloc_at w2 (.cells #[.string e2, .string v2, .string r2] 24))
    have x1 := (X1'.out.below hb).below (below1 w2 (.cells #[.string e2, .string v2, .string r2] 24))
    have x2 := (X2'.out.below hb).below (below1 w2 (.cells #[.string e2, .string v2, .string r2] 24))
    have HB3 : Hid (Below w.heap.size w (w2.alloc (.cells #[.string e2, .string v2, .string r2] 24))) := HB2.out.trans (below_to (below_tr hb (below1 w2 (.cells #[.string e2, .string v2, .string r2] 24))) HB2.out.size)
    clear hb Y1 X1' X2' HB2
    go_wp2_with fail
    obtain ⟨w3, en⟩ : ∃ w3, w2.alloc (.cells #[.string e2, .string v2, .string r2] 24) = w3 := ⟨_, rfl⟩
    rw [en] at Z1 Z2 x1 x2 HB3
    rw [en]
    clear en
    obtain ⟨_, p0, p1, p2, _, _, _⟩ := x1
    obtain ⟨_, q0, q1, q2, _, _, _⟩ := x2
    obtain ⟨_, _, _, _, _, _, _⟩ := Z1
    obtain ⟨_, _, _, _, _, _, _⟩ := Z2
    go_region
    go_wp2
    refine bodyPost_ret (v := .tuple #[.agg #[.string e1, .string v1, .string r1], .agg #[.string e2, .string v2, .string r2], .int .i64 0]) (by simp [results, Tryd.results33, go_sem, p0, p1, p2, q0, q1, q2]) rfl ⟨rfl, ?_⟩
    repeat (first | (with_reducible exact HB3.out) | (with_reducible refine below_sc ?_ (by omega) _ _) | (with_reducible refine Below.drew ?_))

theorem rcompare_bad (k : Int) (a b : ByteArray) (e : Int) (v1 v2 : ByteArray × ByteArray × ByteArray) (he : e = 1 ∨ e = 30) (w : World)
    (h : ∀ w, Calls Tryd.prog 33 #[.int .i64 k, .string a, .string b] w fun en w' => en = .returned (.tuple #[.agg #[.string v1.1, .string v1.2.1, .string v1.2.2], .agg #[.string v2.1, .string v2.2.1, .string v2.2.2], .int .i64 e]) ∧ Below w.heap.size w w') :
    Calls Tryd.prog 15 #[.int .i64 k, .string a, .string b] w fun en w' => en = .returned (.tuple #[.int .i64 0, .int .i64 e]) ∧ Below w.heap.size w w' := by
  have HP := Lib.hid h
  clear h
  rcases he with rfl | rfl
  all_goals
    go_enter Tryd.func15, Tryd.ntmps15
    go_wp2_with fail
    refine (HP.out _).mono ?_
    rintro e w1 ⟨rfl, hb⟩
    have HB := Lib.hid hb
    clear hb
    go_wp2
    go_ret2
    exact ⟨rfl, HB.out.trans (below_to (below2 w1 _ _) HB.out.size)⟩

set_option maxHeartbeats 1000000 in
theorem rcompare_ok (k : Int) (hk : k = 1 ∨ k = 2) (a b : ByteArray) (ha : a.size ≤ maxLen) (hb : b.size ≤ maxLen) {e1 v1 r1 e2 v2 r2 : ByteArray} (h : parse (bs a) = some (bs e1, bs v1, bs r1)) (h' : parse (bs b) = some (bs e2, bs v2, bs r2)) (w : World) :
    Calls Tryd.prog 15 #[.int .i64 k, .string a, .string b] w fun en w' => en = .returned (.tuple #[.int .i64 (or2 (partsC k (bs e1, bs v1, bs r1) (bs e2, bs v2, bs r2)).1 (partsC k (bs e1, bs v1, bs r1) (bs e2, bs v2, bs r2)).2), .int .i64 0]) ∧ Below w.heap.size w w' := by
  have HP := Lib.hid (rboth_ok k hk a b ha hb h h')
  obtain ⟨l1, l2, l3⟩ := parse_len h
  obtain ⟨l4, l5, l6⟩ := parse_len h'
  simp only [bs_length] at l1 l2 l3 l4 l5 l6
  have m : (60 : Nat) ≤ maxLen := by unfold maxLen; omega
  have HQ := Lib.hid (rparts_c k e1 v1 r1 e2 v2 r2 (Nat.le_trans l1 m) (Nat.le_trans l4 m) (Nat.le_trans l2 m) (Nat.le_trans l5 m) (Nat.le_trans l3 m) (Nat.le_trans l6 m))
  clear h h' ha hb l1 l2 l3 l4 l5 l6 m hk
  generalize (partsC k (bs e1, bs v1, bs r1) (bs e2, bs v2, bs r2)).1 = c at *
  generalize (partsC k (bs e1, bs v1, bs r1) (bs e2, bs v2, bs r2)).2 = d at *
  by_cases hc : c = 0
  · subst hc
    rw [show or2 0 d = d from if_neg (by simp)]
    go_enter Tryd.func15, Tryd.ntmps15
    go_wp2_with fail
    refine (HP.out _).mono ?_
    rintro e w1 ⟨rfl, hb⟩
    have HB := Lib.hid hb
    clear hb
    go_wp2_with fail
    refine (HQ.out _).mono ?_
    rintro e w2 ⟨rfl, hb⟩
    have HB2 := Lib.hid (HB.out.trans (below_to (below_tr (below2 w1 _ _) (below_to hb (by simp))) HB.out.size))
    clear hb
    go_wp2
    go_ret2
    exact ⟨rfl, HB2.out⟩
  · rw [show or2 c d = c from if_pos hc]
    have hB : (c != 0) = true := by simpa using hc
    clear hc
    go_enter Tryd.func15, Tryd.ntmps15
    go_wp2_with fail
    refine (HP.out _).mono ?_
    rintro e w1 ⟨rfl, hb⟩
    have HB := Lib.hid hb
    clear hb
    go_wp2_with fail
    refine (HQ.out _).mono ?_
    rintro e w2 ⟨rfl, hb⟩
    have HB2 := Lib.hid (HB.out.trans (below_to (below_tr (below2 w1 _ _) (below_to hb (by simp))) HB.out.size))
    clear hb
    go_wp2
    go_ret2
    exact ⟨rfl, HB2.out⟩

/-- Compare, as the document has it. -/
theorem rCompare_c (k : Int) (a b : ByteArray) (ha : a.size ≤ maxLen) (hb : b.size ≤ maxLen) (w : World) :
    Calls Tryd.prog 15 #[.int .i64 k, .string a, .string b] w fun en w' => en = .returned (.tuple #[.int .i64 (compareE k (bs a) (bs b)).1, .int .i64 (compareE k (bs a) (bs b)).2]) ∧ Below w.heap.size w w' := by
  by_cases hk : k = 1 ∨ k = 2
  · cases h : parse (bs a) with
    | none =>
      rw [compareE_none hk (.inl h)]
      exact rcompare_bad k a b 30 (⟨#[]⟩, ⟨#[]⟩, ⟨#[]⟩) (⟨#[]⟩, ⟨#[]⟩, ⟨#[]⟩) (.inr rfl) w (rboth_a k hk a b ha h)
    | some x =>
      obtain ⟨e1, v1, r1, rfl, _⟩ := parse_form h
      cases h' : parse (bs b) with
      | none =>
        rw [compareE_none hk (.inr h')]
        exact rcompare_bad k a b 30 (e1, v1, r1) (⟨#[]⟩, ⟨#[]⟩, ⟨#[]⟩) (.inr rfl) w (rboth_b k hk a b ha hb h h')
      | some y =>
        obtain ⟨e2, v2, r2, rfl, _⟩ := parse_form h'
        rw [compareE_ok hk h h']
        exact rcompare_ok k hk a b ha hb h h' w
  · rw [compareE_bad (fun e => hk (.inl e)) (fun e => hk (.inr e))]
    exact rcompare_bad k a b 1 (⟨#[]⟩, ⟨#[]⟩, ⟨#[]⟩) (⟨#[]⟩, ⟨#[]⟩, ⟨#[]⟩) (.inl rfl) w (rboth_bad k (fun e => hk (.inl e)) (fun e => hk (.inr e)) a b)

theorem has4 (op : Int) (h0 : 0 ≤ op) (h7 : op ≤ 7) (w : World) : Calls Tryd.prog 35 #[.int .i64 op, .int .i64 4] w fun en w' => en = .returned (.bool (decide (op / 4 % 2 = 1))) ∧ w = w' := by
  have hh : op = 0 ∨ op = 1 ∨ op = 2 ∨ op = 3 ∨ op = 4 ∨ op = 5 ∨ op = 6 ∨ op = 7 := by omega
  clear h0 h7
  rcases hh with rfl | rfl | rfl | rfl | rfl | rfl | rfl | rfl
  all_goals
    go_enter Tryd.func35, Tryd.ntmps35
    go_wp2
    go_ret
    exact ⟨rfl, rfl⟩
theorem has2 (op : Int) (h0 : 0 ≤ op) (h7 : op ≤ 7) (w : World) : Calls Tryd.prog 35 #[.int .i64 op, .int .i64 2] w fun en w' => en = .returned (.bool (decide (op / 2 % 2 = 1))) ∧ w = w' := by
  have hh : op = 0 ∨ op = 1 ∨ op = 2 ∨ op = 3 ∨ op = 4 ∨ op = 5 ∨ op = 6 ∨ op = 7 := by omega
  clear h0 h7
  rcases hh with rfl | rfl | rfl | rfl | rfl | rfl | rfl | rfl
  all_goals
    go_enter Tryd.func35, Tryd.ntmps35
    go_wp2
    go_ret
    exact ⟨rfl, rfl⟩
theorem has1 (op : Int) (h0 : 0 ≤ op) (h7 : op ≤ 7) (w : World) : Calls Tryd.prog 35 #[.int .i64 op, .int .i64 1] w fun en w' => en = .returned (.bool (decide (op % 2 = 1))) ∧ w = w' := by
  have hh : op = 0 ∨ op = 1 ∨ op = 2 ∨ op = 3 ∨ op = 4 ∨ op = 5 ∨ op = 6 ∨ op = 7 := by omega
  clear h0 h7
  rcases hh with rfl | rfl | rfl | rfl | rfl | rfl | rfl | rfl
  all_goals
    go_enter Tryd.func35, Tryd.ntmps35
    go_wp2
    go_ret
    exact ⟨rfl, rfl⟩
end Go.Proofs.YtgggbjkgpjcklaaDoor
